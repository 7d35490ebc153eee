/- The document's SetAttr walked. The document's CutAttr walked. -/
import Derived.Test.YtelhnaphkbpakaaMc31
namespace Go.Proofs.Ytelhnaphkbpakaa
open Go.RowKit
set_option linter.unusedVariables false
set_option maxRecDepth 100000

theorem cellsA_setc {L : List LA} {i : Nat} {x : LA} (h : L[i]? = some x) {a : Option Addr} {c : Nat} {us : List Nat} : cellsA (L.set i ⟨x.name, a, c, us⟩) = (cellsA L).set (i * 2 + 1) (.slice a us.length c) := by
  induction L generalizing i with
  | nil => simp at h
  | cons y l ih =>
    have e (z : LA) (m : List LA) : cellsA (z :: m) = .string z.name :: .slice z.va z.val.length z.vc :: cellsA m := rfl
    cases i with
    | zero =>
      obtain rfl : y = x := by simpa using h
      rfl
    | succ i =>
      have h2 : l[i]? = some x := by simpa using h
      rw [List.set_cons_succ, e, e, ih h2, show (i + 1) * 2 + 1 = (i * 2 + 1) + 1 + 1 by omega]
      rfl
theorem setD_found {L M : List LA} {name : ByteArray} {us : List Nat} {i : Nat} {x : LA} (hML : M.map attrOf = L.map attrOf) (h : L.findIdx (isNm name) = i) (hi : i < L.length) (hx : M[i]? = some x) (a : Option Addr) (c : Nat) :
    (M.set i ⟨x.name, a, c, us⟩).map attrOf = setD (L.map attrOf) name us := by
  unfold setD
  rw [findIdx_map, h, List.length_map, if_pos hi, ← hML]
  exact set_modify hx rfl
theorem setD_new {L M : List LA} {name : ByteArray} {us : List Nat} (hML : M.map attrOf = L.map attrOf) (h : ¬ L.findIdx (isNm name) < L.length) (a : Option Addr) (c : Nat) :
    ((M ++ [(⟨name, none, 0, []⟩ : LA)]).set M.length ⟨name, a, c, us⟩).map attrOf = setD (L.map attrOf) name us := by
  unfold setD
  rw [findIdx_map, List.length_map, if_neg h, ← hML]
  simp [attrOf]
theorem atD_cases (L : List LA) (name : ByteArray) : (atD L name = -1 ∧ ¬ L.findIdx (isNm name) < L.length) ∨ ∃ i : Nat, atD L name = (i : Int) ∧ L.findIdx (isNm name) = i ∧ i < L.length := by
  unfold atD
  by_cases h : L.findIdx (isNm name) < L.length
  · rw [if_pos h]; exact Or.inr ⟨L.findIdx (isNm name), rfl, rfl, h⟩
  · rw [if_neg h]; exact Or.inl ⟨rfl, h⟩

/-- Ahead of the store of the value. -/
structure SA (w : World) (attrs : List (ByteArray × List Nat)) (name : ByteArray) (us : List Nat) (bo : Nat) (M : Nd) (i : Nat) (x : LA) (L1 : List LA) (A1 : Option Addr) (C1 : Nat) (W : World) : Prop where
  res : W.heap[w.heap.size + 1]? = some (.cells Nd.zero.cells 30 (0, 0))
  out : W.heap[bo]? = some (.cells #[.int .i64 M.kind, .string M.name, .slice M.da M.data.length M.dc, .slice A1 L1.length C1, .int .u32 M.slot, .int .u32 M.gen] 30 (0, 0))
  row : W.ownsRow w.heap.size 72 2 (.slice A1 L1.length C1) L1.length (cellsA L1)
  data : W.ownsRow w.heap.size 45 1 (.slice M.da M.data.length M.dc) M.data.length (enc16 M.data)
  val : ∀ y ∈ L1, Clip16 w.heap.size W y.va y.val
  low : Below w.heap.size w W
  at_ : L1[i]? = some x
  spec : ∀ a c, (L1.set i ⟨x.name, a, c, us⟩).map attrOf = setD attrs name us
  nams : ∀ y ∈ L1, y.name.size ≤ 9223372036854775807
  len : L1.length ≤ 1099511627776
  vals : ∀ y ∈ L1, y.val.length ≤ 1099511627776
  ne : bo ≠ w.heap.size + 1
  le : w.heap.size ≤ bo
section
variable {w : World} {attrs : List (ByteArray × List Nat)} {name : ByteArray} {us : List Nat} {bo : Nat} {M : Nd} {i : Nat} {x : LA} {L1 : List LA} {A1 : Option Addr} {C1 : Nat} {W W' : World}
theorem SA.below (h : SA w attrs name us bo M i x L1 A1 C1 W) (b : Below W.heap.size W W') : SA w attrs name us bo M i x L1 A1 C1 W' :=
  ⟨(b.block _ (lt_of_some h.res)).trans h.res, (b.block _ (lt_of_some h.out)).trans h.out, row_below h.row b, row_below h.data b, fun y hy => (h.val y hy).below b, h.low.trans (b.mono h.low.size), h.at_, h.spec, h.nams, h.len, h.vals, h.ne, h.le⟩
/-- The cell of the value, ahead of the store. -/
theorem SA.cell (h : SA w attrs name us bo M i x L1 A1 C1 W) : ∃ g, A1 = some ⟨g, 0, none⟩ ∧ g < W.heap.size ∧ W.cell? ⟨g, i * 2 + 1, none⟩ = some (.slice x.va x.val.length x.vc) ∧ W.frozen? ⟨g, i * 2 + 1, none⟩ = false := by
  obtain ⟨b, hA, hb, hc⟩ := row_src h.row (cellsA_at h.at_).2
  rw [Nat.zero_add] at hc
  subst hA
  obtain ⟨cur, hblk, hB⟩ := rwBlk h.row
  exact ⟨b, rfl, hb, hc, free_blk hblk _⟩
theorem SA.fin (h : SA w attrs name us bo M i x L1 A1 C1 W) {a5 : Option Addr} {c5 : Nat} (hr : W.ownsRow w.heap.size 45 1 (.slice a5 us.length c5) us.length (enc16 us)) (hu : ∀ u ∈ us, u ≤ 65535) (hul : us.length ≤ 1099511627776) (hn : M.name.size ≤ 9223372036854775807) (hd : M.data.length ≤ 1099511627776) (hdb : ∀ u ∈ M.data, u ≤ 65535) {g : Nat} (hg : A1 = some ⟨g, 0, none⟩) {W2 : World} (hW : W2 = W.setCell ⟨g, i * 2 + 1, none⟩ (.slice a5 us.length c5)) :
    W2.heap[w.heap.size + 1]? = some (.cells Nd.zero.cells 30 (0, 0)) ∧ W2.heap[bo]? = some (.cells #[.int .i64 M.kind, .string M.name, .slice M.da M.data.length M.dc, .slice A1 L1.length C1, .int .u32 M.slot, .int .u32 M.gen] 30 (0, 0)) ∧
    OwnNd w.heap.size W2 ⟨M.kind, M.name, M.da, M.dc, M.data, A1, C1, L1.set i ⟨x.name, a5, c5, us⟩, M.slot, M.gen⟩ ∧ Below w.heap.size w W2 := by
  subst hg hW
  obtain ⟨cur, hblk, hB⟩ := rwBlk h.row
  have hc16 : ∀ {a : Option Addr} {vs : List Nat}, Clip16 w.heap.size W a vs → Clip16 w.heap.size (W.setCell ⟨g, i * 2 + 1, none⟩ (.slice a5 us.length c5)) a vs := fun hc => ⟨by obtain ⟨cap, hr⟩ := hc.row; exact ⟨cap, rwOther hr hblk (by decide) _ _⟩, hc.bnd, hc.len⟩
  have hs := h.low.size
  refine ⟨set_other h.res (ne_blk h.res hblk (by decide)) _, set_other h.out (ne_blk h.out hblk (by decide)) _, ⟨rwOther h.data hblk (by decide) _ _, hdb, ?_, fun y hy => ?_, fun y hy => ?_, hn, ⟨hd, ?_, fun y hy => ?_⟩⟩, h.low.setCell hB _⟩
  · have := (h.row.stored (i * 2 + 1) (.slice a5 us.length c5)).1
    simp only [List.length_set]
    rw [cellsA_setc h.at_]
    exact this
  · rcases List.mem_or_eq_of_mem_set hy with hy | rfl
    · exact hc16 (h.val y hy)
    · exact hc16 ⟨⟨c5, hr⟩, hu, by dsimp only; omega⟩
  · rcases List.mem_or_eq_of_mem_set hy with hy | rfl
    · exact h.nams y hy
    · exact h.nams x (List.mem_of_getElem? h.at_)
  · simp only [List.length_set]; exact h.len
  · rcases List.mem_or_eq_of_mem_set hy with hy | rfl
    · exact h.vals y hy
    · exact hul
end
theorem OwnNd.fr30 {B b : Nat} {N : Nd} {W W' : World} (h : OwnNd B W N) (f : FrT [30] b W W') : OwnNd B W' N :=
  ⟨f.row h.data (by decide), h.bnd, f.row h.attrs (by decide), fun x hx => ⟨by obtain ⟨cap, hr⟩ := (h.val x hx).row; exact ⟨cap, f.row hr (by decide)⟩, (h.val x hx).bnd, (h.val x hx).len⟩, h.nams, h.nam, h.bd⟩

set_option maxHeartbeats 8000000 in
theorem setattrR_calls (w : World) (N : Nd) (h : NdIn w N) (hB : N.Bd 1048576) (name : ByteArray) (hns : name.size ≤ 9223372036854775807) {va : Option Addr} {us : List Nat} (vc : Nat) (hV : Sl16 w va us) (hvl : us.length ≤ 1048576) :
    Calls Try.prog 32 #[N.v, .string name, .slice va us.length vc] w fun e w' => ∃ M : Nd, e = .returned (.tuple #[M.v, .int .i64 (setAttrD N.c name us).2]) ∧ M.c = (setAttrD N.c name us).1 ∧ OwnNd w.heap.size w' M ∧ Below w.heap.size w w' := by
  have hat := fun w' (b : Below w.heap.size w w') => atR_calls w' N (h.below b) name
  have hcl := fun w' (b : Below w.heap.size w w') => cloneR_calls w' N (h.below b) (hB.mono (by decide))
  have hcop := fun w' (b : Below w.heap.size w w') => copied_calls w' vc (hV.below b) (by omega)
  have hbn := hV.bnd
  have hBd := hB
  obtain ⟨V, hVV⟩ : ∃ V, V = (w.alloc (.cells N.cells 30)).alloc (.cells Nd.zero.cells 30) := ⟨_, rfl⟩
  have hVs : V.heap.size = w.heap.size + 2 := by rw [hVV]; simp
  have hbV : Below w.heap.size w V := by rw [hVV]; exact ((Below.refl _ w).alloc (Nat.le_refl _) _).alloc (by simp) _
  have x0 : V.heap[w.heap.size]? = some (.cells N.cells 30 (0, 0)) := by rw [hVV]; exact alloc_blk (Go.heap_alloc_new w _) _
  have x1 : V.heap[w.heap.size + 1]? = some (.cells Nd.zero.cells 30 (0, 0)) := by
    rw [hVV]; have := Go.heap_alloc_new (w.alloc (.cells N.cells 30)) (.cells Nd.zero.cells 30); rwa [World.size_alloc] at this
  have hnr := (namedR_calls V name hns).mono (fun e w' ⟨he, hw⟩ => (⟨he, hw ▸ Below.refl _ _⟩ : e = Ending.returned (.bool (namedD name)) ∧ Below V.heap.size V w'))
  obtain ⟨k, nm, da, dc, data, aa, ac, L, sl, ge⟩ := N
  have hNl := hBd.attrs
  have hNv := hBd.val
  have hNdl := hBd.data
  simp only [Nd.v, Nd.cells, Nd.zero, List.length_nil] at *
  have HX := Lib.hid (And.intro x0 (And.intro x1 (And.intro hbV hVV)))
  obtain ⟨n, en⟩ : ∃ n, n = L.length := ⟨_, rfl⟩
  obtain ⟨vl, el⟩ : ∃ vl, vl = us.length := ⟨_, rfl⟩
  rw [← en] at hat hcl hNl hVV
  rw [← el] at hvl hcop ⊢
  rw [← en]
  rw [hVV] at hnr
  have HN := Lib.hid en
  have HL := Lib.hid el
  have HAT := Lib.hid hat
  have HCL := Lib.hid hcl
  have HCP := Lib.hid hcop
  have HNR := Lib.hid hnr
  have HBN := Lib.hid hbn
  have HNV := Lib.hid hNv
  have hV2 := hVV
  clear en el hV hat hcl hcop hnr hbn hNv h hB hBd hbV x0 x1 hVV
  by_cases hk : k = 1
  · subst hk
    cases hnd : namedD name with
    | true =>
      have hres : setAttrD (Nd.c ⟨1, nm, da, dc, data, aa, ac, L, sl, ge⟩) name us = ({ Nd.c ⟨1, nm, da, dc, data, aa, ac, L, sl, ge⟩ with attrs := setD (L.map attrOf) name us }, 0) := by unfold setAttrD; rw [if_neg (fun h => h rfl), if_neg (by rw [hnd]; simp)]; rfl
      rw [hres]
      rw [hnd] at HNR
      clear hres hnd
      go_enter Try.func32, Try.ntmps32
      go_wp2_with fail
      refine HNR.out.mono ?_
      rintro e w1 ⟨rfl, b1⟩
      rw [← hV2] at b1
      have y0 := (b1.block _ (lt_of_some HX.out.1)).trans HX.out.1
      have y1 := (b1.block _ (lt_of_some HX.out.2.1)).trans HX.out.2.1
      have s1 := b1.size
      have B1 := Lib.hid (HX.out.2.2.1.trans (b1.mono (by omega)))
      have HY := Lib.hid (And.intro y0 y1)
      have c0 := cell_blk y0 0 rfl
      have c1 := cell_blk y0 1 rfl
      have c2 := cell_blk y0 2 rfl
      have c3 := cell_blk y0 3 rfl
      have c4 := cell_blk y0 4 rfl
      have c5 := cell_blk y0 5 rfl
      have l0 := lt_of_some y0
      simp at c0 c1 c2 c3 c4 c5
      rw [← HN.out] at c3
      clear b1 y0 y1 hV2 HNR
      go_wp2_with fail
      refine (HCL.out w1 B1.out).mono ?_
      rintro e w2 ⟨M, rfl, hMS, hMo, b2⟩
      clear c0 c1 c2 c3 c4 c5 l0
      have y0 := (b2.block _ (lt_of_some HY.out.1)).trans HY.out.1
      have y1 := (b2.block _ (lt_of_some HY.out.2)).trans HY.out.2
      have s2 := b2.size
      have B2 := Lib.hid (B1.out.trans (b2.mono (by omega)))
      have HY2 := Lib.hid (And.intro y0 y1)
      have HM := Lib.hid (And.intro hMS (hMo.mono (show w.heap.size ≤ _ by omega)))
      have c0 := cell_blk y0 0 rfl
      have c1 := cell_blk y0 1 rfl
      have c2 := cell_blk y0 2 rfl
      have c3 := cell_blk y0 3 rfl
      have c4 := cell_blk y0 4 rfl
      have c5 := cell_blk y0 5 rfl
      have l0 := lt_of_some y0
      simp at c0 c1 c2 c3 c4 c5
      rw [← HN.out] at c3
      clear b2 y0 y1 hMS hMo
      go_wp2_with fail
      obtain ⟨V3, hV3⟩ : ∃ V3, V3 = w2.alloc (.cells #[.int .i64 M.kind, .string M.name, .slice M.da M.data.length M.dc, .slice M.aa M.L.length M.ac, .int .u32 M.slot, .int .u32 M.gen] 30) := ⟨_, rfl⟩
      rw [← hV3]
      have s3 : V3.heap.size = w2.heap.size + 1 := by rw [hV3]; simp
      have b3 : Below w2.heap.size w2 V3 := by rw [hV3]; exact (Below.refl _ w2).alloc (Nat.le_refl _) _
      have m0 : V3.heap[w2.heap.size]? = some (.cells #[.int .i64 M.kind, .string M.name, .slice M.da M.data.length M.dc, .slice M.aa M.L.length M.ac, .int .u32 M.slot, .int .u32 M.gen] 30 (0, 0)) := by rw [hV3]; exact Go.heap_alloc_new w2 _
      have B3 := Lib.hid (B2.out.trans (b3.mono (by omega)))
      have H3 := Lib.hid (And.intro b3 m0)
      clear c0 c1 c2 c3 c4 c5 l0 hV3 b3 m0
      refine (HAT.out V3 B3.out).mono ?_
      rintro e w4 ⟨rfl, b4⟩
      have s4 := b4.size
      have B4 := Lib.hid (B3.out.trans (b4.mono (by omega)))
      have hMl : M.L.length = n := by rw [HM.out.1.len, HN.out]
      have hML : M.L.map attrOf = L.map attrOf := HM.out.1.attrs
      have m4 := (b4.block _ (lt_of_some H3.out.2)).trans H3.out.2
      have bA := H3.out.1.trans (b4.mono (by omega))
      have r4 := (bA.block _ (lt_of_some HY2.out.2)).trans HY2.out.2
      have o4 := HM.out.2.below bA
      have H4 := Lib.hid (And.intro m4 (And.intro r4 (And.intro o4 (And.intro hML hMl))))
      have c3 := cell_blk m4 3 rfl
      have f3 := free_blk m4 3
      have l4 := lt_of_some m4
      simp at c3
      rw [hMl] at c3
      clear b4 m4 bA r4 o4 hML
      go_upto_if 26 with fail
      go_cut [10] (fun v10 wc => ∃ (i : Nat) (x : LA) (L1 : List LA) (A1 : Option Addr) (C1 : Nat), v10 = .int .i64 (i : Nat) ∧ SA w (L.map attrOf) name us w2.heap.size M i x L1 A1 C1 wc)
      case first =>
        as_aux_lemma =>
        rcases atD_cases L name with ⟨e, hnot⟩ | ⟨i, e, hfi, hi⟩
        · rw [e]
          obtain ⟨i72, hi72, ia1, ia2, ia3⟩ := info_parts info72
          have hr4 := H4.out.2.2.1.attrs
          rw [hMl] at hr4
          have HR := Lib.hid hr4
          have HNOT := Lib.hid hnot
          clear hr4 hnot e
          go_wp2_with (at_builtin; refine wpList_append_any _ rfl (.tmp 31) (.tmp 34) 25 rfl w.heap.size 72 i72 _ 2 40 Try.underlying25 hi72 ia1 ia2 ia3 rfl (by omega) _ n (cellsA M.L) rfl (HR.out.alloc _) (some ⟨w4.heap.size, 0, none⟩) 1 1 [.string name, .slice none 0 0] rfl rfl (.inr ⟨_, rfl, World.news_of_block (cs := #[.string name, .slice none 0 0]) (t := 72) (fr := (0, 0)) (Go.heap_alloc_new w4 _)⟩) (by simp [Value.oneCell']) (by unfold maxLen; omega) (by omega) (by simp; omega) ?_)
          intro a6 c6 w6 hown6 hgrow6
          have f : FrT [72] w.heap.size w4 w6 := ((FrT.refl _ _ _).alloc _).append (HR.out.alloc _) (Nat.le_refl _) (by simp) hgrow6
          have m6 := f.blk H4.out.1 (by decide)
          have c36 := cell_blk m6 3 rfl
          have f36 := free_blk m6 3
          have l6 := lt_of_some m6
          simp at c36
          have H6 := Lib.hid (And.intro f (And.intro m6 hown6))
          clear c3 f3 l4 f m6 hown6 hgrow6
          go_wp2
          go_meet
          case rel =>
            obtain ⟨f, m6, hown6⟩ := H6.out
            have h4 := H4.out
            have o4 := h4.2.2.1
            have hs := B4.out.size
            have hlen : (M.L ++ [(⟨name, none, 0, []⟩ : LA)]).length = n + 1 := by simp [hMl]
            have hce : cellsA (M.L ++ [(⟨name, none, 0, []⟩ : LA)]) = cellsA M.L ++ [.string name, .slice none 0 0] := by rw [cellsA_append]; rfl
            refine ⟨n, ⟨name, none, 0, []⟩, M.L ++ [⟨name, none, 0, []⟩], a6, c6, rfl, ⟨set_other (f.blk h4.2.1 (by decide)) (by simp; omega) _, ?_, ?_, rwOther (f.row o4.data (by decide)) m6 (by decide) _ _, fun y hy => ?_, (B4.out.trans (f.below hs)).setCell (by simp; omega) _, ?_, fun a c => ?_, fun y hy => ?_, by rw [hlen]; omega, fun y hy => ?_, by omega, by omega⟩⟩
            · have := set_blk m6 3 (.slice a6 (n + 1) c6)
              rw [hlen]
              exact this
            · rw [hlen, hce]
              exact rwOther hown6 m6 (by decide) _ _
            · have hc : Clip16 w.heap.size w6 y.va y.val := by
                rcases List.mem_append.1 hy with hy | hy
                · obtain ⟨cap, hr⟩ := (o4.val y hy).row
                  exact ⟨⟨cap, f.row hr (by decide)⟩, (o4.val y hy).bnd, (o4.val y hy).len⟩
                · obtain rfl := by simpa using hy
                  exact Clip16.nil _ _
              obtain ⟨cap, hr⟩ := hc.row
              exact ⟨⟨cap, rwOther hr m6 (by decide) _ _⟩, hc.bnd, hc.len⟩
            · rw [← hMl]; simp
            · have := setD_new (us := us) h4.2.2.2.1 HNOT.out a c
              rw [hMl] at this
              exact this
            · rcases List.mem_append.1 hy with hy | hy
              · exact o4.nams y hy
              · obtain rfl := by simpa using hy
                exact hns
            · rcases List.mem_append.1 hy with hy | hy
              · exact o4.bd.val y hy
              · obtain rfl := by simpa using hy
                simp
        · rw [e]
          obtain ⟨x, hx⟩ : ∃ x, M.L[i]? = some x := ⟨_, List.getElem?_eq_getElem (by rw [hMl, HN.out]; exact hi)⟩
          have p0 : ¬ (i : Int) < 0 := by omega
          have HH := Lib.hid (And.intro hx (And.intro hfi hi))
          clear hx hfi hi e
          go_wp2
          go_meet
          case rel =>
            have h4 := H4.out
            have o4 := h4.2.2.1
            exact ⟨i, x, M.L, M.aa, M.ac, rfl, ⟨h4.2.1, h4.1, o4.attrs, o4.data, o4.val, B4.out, HH.out.1, fun a c => setD_found h4.2.2.2.1 HH.out.2.1 HH.out.2.2 HH.out.1 a c, o4.nams, o4.bd.attrs, o4.bd.val, by omega, by omega⟩⟩
      case rest =>
      obtain ⟨i, x, L1, A1, C1, rfl, hS⟩ := hcut
      obtain ⟨g, hA, lg, hcg, hfg⟩ := hS.cell
      subst hA
      obtain ⟨n1, en1⟩ : ∃ n1, n1 = L1.length := ⟨_, rfl⟩
      have hi1 : i < n1 := by rw [en1]; exact (List.getElem?_eq_some_iff.1 hS.at_).1
      have HS : Hid (∀ W, SA w (L.map attrOf) name us w2.heap.size M i x L1 (some ⟨g, 0, none⟩) C1 W → W.cell? ⟨w2.heap.size, 3, none⟩ = some (.slice (some ⟨g, 0, none⟩) n1 C1)) := Lib.hid (fun W hW => by rw [en1]; exact cell_blk hW.out 3 rfl)
      have z3 := HS.out _ hS
      have lz := lt_of_some hS.out
      have HD := Lib.hid (hS.below ((Below.refl _ wc).drew))
      have HSP := Lib.hid hS.spec
      have HN1 := Lib.hid en1
      have HMF := Lib.hid (And.intro H4.out.2.2.1.nam (And.intro H4.out.2.2.1.bd.data H4.out.2.2.1.bnd))
      have p0 : (0 : Int) ≤ (i : Int) := by omega
      have p1 : (i : Int) < (n1 : Int) := by omega
      clear hS en1 c3 f3 l4 hcg hfg hMl
      go_wp2_with fail
      refine wp_region_held_drew (S := fun W => W.cell? ⟨w2.heap.size, 3, none⟩ = some (.slice (some ⟨g, 0, none⟩) n1 C1)) (by kernel_rfl) z3 (fun hHeld => ?_)
      refine wpAnyH_take (i := 0) (v := ?_) rfl (by kernel_rfl) (by kernel_rfl) (by kernel_rfl) (fun _ _ _ h => h) (Or.inl ⟨by rfl, ?_⟩) (by assumption) ?_
      rotate_left
      · intro w hSw; (try dsimp only at hSw); go_simp; try with_reducible rfl
      refine wpAnyH_take (i := 2) (v := ?_) rfl (by kernel_rfl) (by kernel_rfl) (by kernel_rfl) (fun _ _ _ h => h) (Or.inl ⟨by rfl, ?_⟩) (by assumption) ?_
      rotate_left
      · intro w hSw; (try dsimp only at hSw); go_simp; try with_reducible rfl
      refine wpAnyH_take (i := 3) (v := ?_) rfl (by kernel_rfl) (by kernel_rfl) (by kernel_rfl) (fun _ _ _ h => h) (Or.inl ⟨by rfl, ?_⟩) (by assumption) ?_
      rotate_left
      · intro w hSw; (try dsimp only at hSw); go_simp; try with_reducible rfl
      refine wpAnyH_ready (rs := [1, 4]) (by kernel_rfl) (by simp) ?_
      refine AllReadyH.cons rfl (fun K' hK => ?_) (AllReadyH.cons rfl (fun K' hK => ?_) AllReadyH.nil)
      · go_simp
        refine hK.out _ _ hHeld (fun hHeld => ?_)
        clear hK K'
        refine wpAnyH_ready (rs := [4]) (by kernel_rfl) (by simp) ?_
        refine AllReadyH.cons rfl (fun K' hK => ?_) AllReadyH.nil
        go_simp
        go_at_call 67
        refine (HCP.out _ HD.out.low).mono ?_
        rintro e w5 ⟨a5, c5, rfl, hr5, b5⟩
        have hs5 := HD.out.below b5
        refine hK.out _ _ (HS.out w5 hs5) (fun hHeld => ?_)
        clear hK K' hHeld
        have hHeld := HS.out w5 hs5
        obtain ⟨g', hA', lg5, hcg5, hfg5⟩ := hs5.cell
        obtain rfl : g = g' := by simpa using hA'
        have hfin := hs5.fin (a5 := a5) (c5 := c5) (by rw [← HL.out]; exact hr5.mono HD.out.low.size) HBN.out (by rw [← HL.out]; omega) HMF.out.1 HMF.out.2.1 HMF.out.2.2 rfl rfl
        rw [← HL.out] at hfin
        have HF := Lib.hid hfin
        clear hr5 b5 hs5 hA' hfin
        refine wpAnyH_take (i := 5) (v := ?_) rfl (by kernel_rfl) (by kernel_rfl) (by kernel_rfl) (fun _ _ _ h => h) (Or.inl ⟨by rfl, ?_⟩) (by assumption) ?_
        rotate_left
        · intro w hSw; (try dsimp only at hSw); go_simp; try with_reducible rfl
        refine wpAnyH_take (i := 6) (v := ?_) rfl (by kernel_rfl) (by kernel_rfl) (by kernel_rfl) (fun _ _ _ h => h) (Or.inl ⟨by rfl, ?_⟩) (by assumption) ?_
        rotate_left
        · intro w hSw; (try dsimp only at hSw); go_simp; try with_reducible rfl
        refine wpAnyH_ready (rs := [7]) (by kernel_rfl) (by simp) ?_
        refine AllReadyH.cons rfl (fun K' hK => ?_) AllReadyH.nil
        go_simp
        refine hK.out _ _ (by have := cell_blk HF.out.2.1 3 rfl; simpa [← HN1.out] using this) (fun hHeld => ?_)
        clear hK K'
        refine wpAnyH_done (by kernel_rfl) ?_ _
        clear hHeld lg5 hcg5 hfg5
        obtain ⟨W2, hW2⟩ : ∃ W2, W2 = w5.setCell ⟨g, i * 2 + 1, none⟩ (.slice a5 vl c5) := ⟨_, rfl⟩
        have hFF := HF.out
        rw [← hW2] at hFF ⊢
        obtain ⟨hF1, hF2, hF3, hF4⟩ := hFF
        have z0 := cell_blk hF2 0 rfl
        have z1 := cell_blk hF2 1 rfl
        have z2 := cell_blk hF2 2 rfl
        have z3 := cell_blk hF2 3 rfl
        have z4 := cell_blk hF2 4 rfl
        have z5 := cell_blk hF2 5 rfl
        have lz := lt_of_some hF2
        obtain ⟨d0, d1, d2, d3, d4, d5, ld⟩ := box_cells hF1
        simp only [Nd.zero, List.length_nil] at d0 d1 d2 d3 d4 d5
        have g0 := fun j => free_blk hF1 j
        simp at z0 z1 z2 z3 z4 z5
        rw [← HN1.out] at z3
        have HG := Lib.hid (And.intro hF1 (And.intro hF2 (And.intro hF3 hF4)))
        clear hF1 hF2 hF3 hF4 hW2
        go_wp2
        obtain ⟨hF1, hF2, hF3, hF4⟩ := HG.out
        obtain ⟨hE, hFr⟩ := six_cells hF1 (.int .i64 M.kind) (.string M.name) (.slice M.da M.data.length M.dc) (.slice (some ⟨g, 0, none⟩) n1 C1) (.int .u32 M.slot) (.int .u32 M.gen)
        have r0 := cell_blk hE 0 rfl
        have r1 := cell_blk hE 1 rfl
        have r2 := cell_blk hE 2 rfl
        have r3 := cell_blk hE 3 rfl
        have r4 := cell_blk hE 4 rfl
        have r5 := cell_blk hE 5 rfl
        have hs4 := hF4.size
        refine bodyPost_ret (v := .tuple #[.agg #[.int .i64 M.kind, .string M.name, .slice M.da M.data.length M.dc, .slice (some ⟨g, 0, none⟩) n1 C1, .int .u32 M.slot, .int .u32 M.gen], .int .i64 0]) (by simp [results, Try.results32, go_sem, r0, r1, r2, r3, r4, r5]) rfl ⟨⟨M.kind, M.name, M.da, M.dc, M.data, some ⟨g, 0, none⟩, C1, L1.set i ⟨x.name, a5, c5, us⟩, M.slot, M.gen⟩, ?_, ?_, hF3.fr30 hFr, hF4.trans ((hFr.below (by omega)).mono (by omega))⟩
        · simp only [List.length_set, ← HN1.out]
        · have hc := HM.out.1.c
          unfold Nd.c at hc ⊢
          simp only [NC.mk.injEq] at hc ⊢
          exact ⟨hc.1, hc.2.1, hc.2.2.1, HSP.out a5 c5, hc.2.2.2.2⟩
      · go_simp
        go_at_call 67
        refine (HCP.out _ HD.out.low).mono ?_
        rintro e w5 ⟨a5, c5, rfl, hr5, b5⟩
        have hs5 := HD.out.below b5
        refine hK.out _ _ (HS.out w5 hs5) (fun hHeld => ?_)
        clear hK K' hHeld
        have hHeld := HS.out w5 hs5
        obtain ⟨g', hA', lg5, hcg5, hfg5⟩ := hs5.cell
        obtain rfl : g = g' := by simpa using hA'
        have hfin := hs5.fin (a5 := a5) (c5 := c5) (by rw [← HL.out]; exact hr5.mono HD.out.low.size) HBN.out (by rw [← HL.out]; omega) HMF.out.1 HMF.out.2.1 HMF.out.2.2 rfl rfl
        rw [← HL.out] at hfin
        have HF := Lib.hid hfin
        clear hr5 b5 hs5 hA' hfin
        refine wpAnyH_ready (rs := [1]) (by kernel_rfl) (by simp) ?_
        refine AllReadyH.cons rfl (fun K' hK => ?_) AllReadyH.nil
        go_simp
        refine hK.out _ _ hHeld (fun hHeld => ?_)
        clear hK K'
        refine wpAnyH_take (i := 5) (v := ?_) rfl (by kernel_rfl) (by kernel_rfl) (by kernel_rfl) (fun _ _ _ h => h) (Or.inl ⟨by rfl, ?_⟩) (by assumption) ?_
        rotate_left
        · intro w hSw; (try dsimp only at hSw); go_simp; try with_reducible rfl
        refine wpAnyH_take (i := 6) (v := ?_) rfl (by kernel_rfl) (by kernel_rfl) (by kernel_rfl) (fun _ _ _ h => h) (Or.inl ⟨by rfl, ?_⟩) (by assumption) ?_
        rotate_left
        · intro w hSw; (try dsimp only at hSw); go_simp; try with_reducible rfl
        refine wpAnyH_ready (rs := [7]) (by kernel_rfl) (by simp) ?_
        refine AllReadyH.cons rfl (fun K' hK => ?_) AllReadyH.nil
        go_simp
        refine hK.out _ _ (by have := cell_blk HF.out.2.1 3 rfl; simpa [← HN1.out] using this) (fun hHeld => ?_)
        clear hK K'
        refine wpAnyH_done (by kernel_rfl) ?_ _
        clear hHeld lg5 hcg5 hfg5
        obtain ⟨W2, hW2⟩ : ∃ W2, W2 = w5.setCell ⟨g, i * 2 + 1, none⟩ (.slice a5 vl c5) := ⟨_, rfl⟩
        have hFF := HF.out
        rw [← hW2] at hFF ⊢
        obtain ⟨hF1, hF2, hF3, hF4⟩ := hFF
        have z0 := cell_blk hF2 0 rfl
        have z1 := cell_blk hF2 1 rfl
        have z2 := cell_blk hF2 2 rfl
        have z3 := cell_blk hF2 3 rfl
        have z4 := cell_blk hF2 4 rfl
        have z5 := cell_blk hF2 5 rfl
        have lz := lt_of_some hF2
        obtain ⟨d0, d1, d2, d3, d4, d5, ld⟩ := box_cells hF1
        simp only [Nd.zero, List.length_nil] at d0 d1 d2 d3 d4 d5
        have g0 := fun j => free_blk hF1 j
        simp at z0 z1 z2 z3 z4 z5
        rw [← HN1.out] at z3
        have HG := Lib.hid (And.intro hF1 (And.intro hF2 (And.intro hF3 hF4)))
        clear hF1 hF2 hF3 hF4 hW2
        go_wp2
        obtain ⟨hF1, hF2, hF3, hF4⟩ := HG.out
        obtain ⟨hE, hFr⟩ := six_cells hF1 (.int .i64 M.kind) (.string M.name) (.slice M.da M.data.length M.dc) (.slice (some ⟨g, 0, none⟩) n1 C1) (.int .u32 M.slot) (.int .u32 M.gen)
        have r0 := cell_blk hE 0 rfl
        have r1 := cell_blk hE 1 rfl
        have r2 := cell_blk hE 2 rfl
        have r3 := cell_blk hE 3 rfl
        have r4 := cell_blk hE 4 rfl
        have r5 := cell_blk hE 5 rfl
        have hs4 := hF4.size
        refine bodyPost_ret (v := .tuple #[.agg #[.int .i64 M.kind, .string M.name, .slice M.da M.data.length M.dc, .slice (some ⟨g, 0, none⟩) n1 C1, .int .u32 M.slot, .int .u32 M.gen], .int .i64 0]) (by simp [results, Try.results32, go_sem, r0, r1, r2, r3, r4, r5]) rfl ⟨⟨M.kind, M.name, M.da, M.dc, M.data, some ⟨g, 0, none⟩, C1, L1.set i ⟨x.name, a5, c5, us⟩, M.slot, M.gen⟩, ?_, ?_, hF3.fr30 hFr, hF4.trans ((hFr.below (by omega)).mono (by omega))⟩
        · simp only [List.length_set, ← HN1.out]
        · have hc := HM.out.1.c
          unfold Nd.c at hc ⊢
          simp only [NC.mk.injEq] at hc ⊢
          exact ⟨hc.1, hc.2.1, hc.2.2.1, HSP.out a5 c5, hc.2.2.2.2⟩
    | false =>
      have hres : setAttrD (Nd.c ⟨1, nm, da, dc, data, aa, ac, L, sl, ge⟩) name us = (NC.zero, 62) := by unfold setAttrD; rw [if_neg (fun h => h rfl), if_pos hnd]
      rw [hres]
      rw [hnd] at HNR
      clear hres hnd
      go_enter Try.func32, Try.ntmps32
      go_wp2_with fail
      refine HNR.out.mono ?_
      rintro e w1 ⟨rfl, b1⟩
      rw [← hV2] at b1
      have x1 := (b1.block _ (lt_of_some HX.out.2.1)).trans HX.out.2.1
      have s1 := b1.size
      have B1 := Lib.hid (HX.out.2.2.1.trans (b1.mono (by omega)))
      have z0 := cell_blk x1 0 rfl
      have z1 := cell_blk x1 1 rfl
      have z2 := cell_blk x1 2 rfl
      have z3 := cell_blk x1 3 rfl
      have z4 := cell_blk x1 4 rfl
      have z5 := cell_blk x1 5 rfl
      have g0 := fun j => free_blk x1 j
      have l1 := lt_of_some x1
      have X2 := Lib.hid x1
      simp at z2 z3
      clear b1 x1
      go_wp2
      obtain ⟨hE, hF⟩ := six_cells X2.out (.int .i64 0) (.string ⟨#[]⟩) (.slice none 0 0) (.slice none 0 0) (.int .u32 0) (.int .u32 0)
      have y0 := cell_blk hE 0 rfl
      have y1 := cell_blk hE 1 rfl
      have y2 := cell_blk hE 2 rfl
      have y3 := cell_blk hE 3 rfl
      have y4 := cell_blk hE 4 rfl
      have y5 := cell_blk hE 5 rfl
      exact bodyPost_ret (v := .tuple #[.agg #[.int .i64 0, .string ⟨#[]⟩, .slice none 0 0, .slice none 0 0, .int .u32 0, .int .u32 0], .int .i64 62]) (by simp [results, Try.results32, go_sem, y0, y1, y2, y3, y4, y5]) rfl ⟨Nd.zero, rfl, rfl, OwnNd.zero _ _, B1.out.trans ((hF.below (by omega)).mono (by omega))⟩
  · have hk2 : (k == 1) = false := by simpa using hk
    have hres : setAttrD (Nd.c ⟨k, nm, da, dc, data, aa, ac, L, sl, ge⟩) name us = (NC.zero, 63) := by unfold setAttrD; exact if_pos hk
    rw [hres]
    have z0 := cell_blk HX.out.2.1 0 rfl
    have z1 := cell_blk HX.out.2.1 1 rfl
    have z2 := cell_blk HX.out.2.1 2 rfl
    have z3 := cell_blk HX.out.2.1 3 rfl
    have z4 := cell_blk HX.out.2.1 4 rfl
    have z5 := cell_blk HX.out.2.1 5 rfl
    simp at z2 z3
    rw [hV2] at z0 z1 z2 z3 z4 z5
    clear hres
    go_enter Try.func32, Try.ntmps32
    go_wp2
    exact bodyPost_ret (v := .tuple #[.agg #[.int .i64 0, .string ⟨#[]⟩, .slice none 0 0, .slice none 0 0, .int .u32 0, .int .u32 0], .int .i64 63]) (by simp [results, Try.results32, go_sem, z0, z1, z2, z3, z4, z5]) rfl ⟨Nd.zero, rfl, rfl, OwnNd.zero _ _, by rw [← hV2]; exact HX.out.2.2.1⟩
end Go.Proofs.Ytelhnaphkbpakaa

namespace Go.Proofs.Ytelhnaphkbpakaa
open Go.RowKit
set_option linter.unusedVariables false
set_option maxRecDepth 100000

/-- What CutAttr tells: the node, whether there was one, the error. -/
def cutD (c : NC) (name : ByteArray) : NC × Bool × Int :=
  if c.kind ≠ 1 then (NC.zero, false, 63) else if c.attrs.findIdx (isNm2 name) < c.attrs.length then ({ c with attrs := c.attrs.eraseIdx (c.attrs.findIdx (isNm2 name)) }, true, 0) else (c, false, 0)
theorem cutD_no {N : Nd} {name : ByteArray} (h : N.kind ≠ 1) : cutD N.c name = (NC.zero, false, 63) := if_pos h
theorem cutD_not {N : Nd} {name : ByteArray} (h : N.kind = 1) (h2 : ¬ N.L.findIdx (isNm name) < N.L.length) : cutD N.c name = (N.c, false, 0) := by
  unfold cutD
  rw [if_neg (show ¬ N.c.kind ≠ 1 from fun k => k h), if_neg]
  show ¬ (N.L.map attrOf).findIdx (isNm2 name) < (N.L.map attrOf).length
  rw [findIdx_map, List.length_map]; exact h2
theorem cutD_at {N : Nd} {name : ByteArray} {i : Nat} (h : N.kind = 1) (h2 : N.L.findIdx (isNm name) = i) (hi : i < N.L.length) : cutD N.c name = ({ N.c with attrs := (N.L.map attrOf).eraseIdx i }, true, 0) := by
  unfold cutD
  have e : N.c.attrs.findIdx (isNm2 name) = i := by show (N.L.map attrOf).findIdx (isNm2 name) = i; rw [findIdx_map]; exact h2
  rw [if_neg (show ¬ N.c.kind ≠ 1 from fun k => k h), e, if_pos (show i < N.c.attrs.length by show i < (N.L.map attrOf).length; rw [List.length_map]; exact hi)]
  rfl
theorem cellsA_split (L : List LA) (i : Nat) : cellsA L = cellsA (L.take i) ++ cellsA (L.drop i) := by rw [← cellsA_append, List.take_append_drop]
theorem SlA.take {w : World} {a : Option Addr} {L : List LA} (h : SlA w a L) (i : Nat) : SlA w a (L.take i) := by
  refine ⟨fun j u hu => h.at_ j u ?_, Nat.le_trans (by rw [List.length_take]; omega) h.len, fun x hx => h.val x (List.mem_of_mem_take hx), fun x hx => h.nam x (List.mem_of_mem_take hx)⟩
  rw [cellsA_split L i, List.getElem?_append_left (List.getElem?_eq_some_iff.1 hu).1]
  exact hu
theorem src_take {w : World} {a : Option Addr} {L : List LA} (h : SlA w a L) {i : Nat} (hi : i ≤ L.length) : RowSrc w 2 a i (cellsA (L.take i)) := by
  have := RowSrc.attrs (h.take i)
  rw [List.length_take, Nat.min_eq_left hi] at this
  exact this
theorem src_drop {w : World} {a : Option Addr} {L : List LA} (h : SlA w a L) {i : Nat} (hi : i + 1 ≤ L.length) {A : Option Addr} (hA : A = a.map (·.add ((i + 1) * 2)) ∨ L.length = i + 1) : RowSrc w 2 A (L.length - (i + 1)) (cellsA (L.drop (i + 1))) := by
  have hl : (L.drop (i + 1)).length = L.length - (i + 1) := List.length_drop
  refine ⟨by rw [cellsA_len, hl], ?_, cellsA_one _⟩
  by_cases h0 : L.length = i + 1
  · left; omega
  right
  have hA' : A = a.map (·.add ((i + 1) * 2)) := by rcases hA with h | h; exact h; exact absurd h h0
  obtain ⟨b, off, e1, e2, e3⟩ := (RowSrc.attrs h).src.resolve_left (by omega)
  subst e1
  refine ⟨b, off + (i + 1) * 2, by rw [hA', Option.map_some]; congr 1, e2, fun j u hu => ?_⟩
  have ht : (cellsA (L.take (i + 1))).length = (i + 1) * 2 := by rw [cellsA_len, List.length_take, Nat.min_eq_left hi]
  have := e3 ((i + 1) * 2 + j) u (by rw [cellsA_split L (i + 1), List.getElem?_append_right (by omega), ht, Nat.add_sub_cancel_left]; exact hu)
  rw [Nat.add_assoc]; exact this
theorem erase_map {L M : List LA} (h : M.map attrOf = L.map attrOf) (i : Nat) : ((M.take i ++ M.drop (i + 1)).map attrOf) = (L.map attrOf).eraseIdx i := by
  rw [List.eraseIdx_eq_take_drop_succ, ← h, List.map_append, List.map_take, List.map_drop]

/-- A row in blocks that were there stands where only later ones turn. -/
theorem FrT.rowLt {T : List TypeId} {w w' : World} (f : FrT T w.heap.size w w') {base : Nat} {e : TypeId} {size : Nat} {v : Value} {n : Nat} {xs : List Value} (h : w.ownsRow base e size v n xs) (hlt : ∀ y, v.ownBlock = some y → y < w.heap.size) : w'.ownsRow base e size v n xs :=
  row_below h (f.below (Nat.le_refl _))
set_option maxHeartbeats 8000000 in
theorem cutattrR_calls (w : World) (N : Nd) (h : NdIn w N) (hB : N.Bd 1048576) (name : ByteArray) {cc : NC} {is : Bool} {kk : Int} (e : cutD N.c name = (cc, is, kk)) :
    Calls Try.prog 34 #[N.v, .string name] w fun e w' => ∃ M : Nd, e = .returned (.tuple #[M.v, .bool is, .int .i64 kk]) ∧ M.c = cc ∧ OwnNd w.heap.size w' M ∧ Below w.heap.size w w' := by
  have hat := fun w' (b : Below w.heap.size w w') => atR_calls w' N (h.below b) name
  have hcl := fun w' (b : Below w.heap.size w w') => cloneR_calls w' N (h.below b) (hB.mono (by decide))
  have hBd := hB
  obtain ⟨V, hVV⟩ : ∃ V, V = (w.alloc (.cells N.cells 30)).alloc (.cells Nd.zero.cells 30) := ⟨_, rfl⟩
  have hVs : V.heap.size = w.heap.size + 2 := by rw [hVV]; simp
  have hbV : Below w.heap.size w V := by rw [hVV]; exact ((Below.refl _ w).alloc (Nat.le_refl _) _).alloc (by simp) _
  have x0 : V.heap[w.heap.size]? = some (.cells N.cells 30 (0, 0)) := by rw [hVV]; exact alloc_blk (Go.heap_alloc_new w _) _
  have x1 : V.heap[w.heap.size + 1]? = some (.cells Nd.zero.cells 30 (0, 0)) := by
    rw [hVV]; have := Go.heap_alloc_new (w.alloc (.cells N.cells 30)) (.cells Nd.zero.cells 30); rwa [World.size_alloc] at this
  have eNo := fun (hk : N.kind ≠ 1) => (cutD_no (name := name) hk).symm.trans e
  have eNot := fun (hk : N.kind = 1) (h2 : ¬ N.L.findIdx (isNm name) < N.L.length) => (cutD_not (name := name) hk h2).symm.trans e
  have eAt := fun (hk : N.kind = 1) (i : Nat) (h2 : N.L.findIdx (isNm name) = i) (hi : i < N.L.length) => (cutD_at (name := name) hk h2 hi).symm.trans e
  obtain ⟨k, nm, da, dc, data, aa, ac, L, sl, ge⟩ := N
  have hNl := hBd.attrs
  simp only [Nd.v, Nd.cells, Nd.zero, List.length_nil] at *
  have HX := Lib.hid (And.intro x0 (And.intro x1 (And.intro hbV hVV)))
  have HE := Lib.hid (And.intro eNo (And.intro eNot eAt))
  obtain ⟨n, en⟩ : ∃ n, n = L.length := ⟨_, rfl⟩
  rw [← en] at hat hcl hNl hVV
  rw [← en]
  have HN := Lib.hid en
  have HAT := Lib.hid hat
  have HCL := Lib.hid hcl
  have hV2 := hVV
  clear en hat hcl h hB hBd hbV hVV eNo eNot eAt e
  by_cases hk : k = 1
  · subst hk
    have c0 := cell_blk x0 0 rfl
    have c1 := cell_blk x0 1 rfl
    have c2 := cell_blk x0 2 rfl
    have c3 := cell_blk x0 3 rfl
    have c4 := cell_blk x0 4 rfl
    have c5 := cell_blk x0 5 rfl
    have l0 := lt_of_some x0
    simp at c0 c1 c2 c3 c4 c5
    rw [← HN.out] at c3
    have HC1 := Lib.hid (HCL.out V HX.out.2.2.1)
    rw [hV2] at HC1 c0 c1 c2 c3 c4 c5 l0
    clear x0 x1
    go_enter Try.func34, Try.ntmps34
    go_wp2_with fail
    refine HC1.out.mono ?_
    rintro e w2 ⟨M, rfl, hMS, hMo, b2⟩
    rw [← hV2] at b2 hMo
    clear c0 c1 c2 c3 c4 c5 l0
    have y0 := (b2.block _ (lt_of_some HX.out.1)).trans HX.out.1
    have y1 := (b2.block _ (lt_of_some HX.out.2.1)).trans HX.out.2.1
    have s2 := b2.size
    have B2 := Lib.hid (HX.out.2.2.1.trans (b2.mono (by omega)))
    have HY2 := Lib.hid (And.intro y0 y1)
    have HM := Lib.hid (And.intro hMS (hMo.mono (show w.heap.size ≤ _ by omega)))
    have c0 := cell_blk y0 0 rfl
    have c1 := cell_blk y0 1 rfl
    have c2 := cell_blk y0 2 rfl
    have c3 := cell_blk y0 3 rfl
    have c4 := cell_blk y0 4 rfl
    have c5 := cell_blk y0 5 rfl
    have l0 := lt_of_some y0
    simp at c0 c1 c2 c3 c4 c5
    rw [← HN.out] at c3
    clear b2 y0 y1 hMS hMo hV2 HC1
    go_wp2_with fail
    obtain ⟨V3, hV3⟩ : ∃ V3, V3 = w2.alloc (.cells #[.int .i64 M.kind, .string M.name, .slice M.da M.data.length M.dc, .slice M.aa M.L.length M.ac, .int .u32 M.slot, .int .u32 M.gen] 30) := ⟨_, rfl⟩
    rw [← hV3]
    have s3 : V3.heap.size = w2.heap.size + 1 := by rw [hV3]; simp
    have b3 : Below w2.heap.size w2 V3 := by rw [hV3]; exact (Below.refl _ w2).alloc (Nat.le_refl _) _
    have m0 : V3.heap[w2.heap.size]? = some (.cells #[.int .i64 M.kind, .string M.name, .slice M.da M.data.length M.dc, .slice M.aa M.L.length M.ac, .int .u32 M.slot, .int .u32 M.gen] 30 (0, 0)) := by rw [hV3]; exact Go.heap_alloc_new w2 _
    have B3 := Lib.hid (B2.out.trans (b3.mono (by omega)))
    have H3 := Lib.hid (And.intro b3 m0)
    clear c0 c1 c2 c3 c4 c5 l0 hV3 b3 m0
    refine (HAT.out V3 B3.out).mono ?_
    rintro e w4 ⟨rfl, b4⟩
    have s4 := b4.size
    have B4 := Lib.hid (B3.out.trans (b4.mono (by omega)))
    have hMl : M.L.length = n := by rw [HM.out.1.len, HN.out]
    have hML : M.L.map attrOf = L.map attrOf := HM.out.1.attrs
    have m4 := (b4.block _ (lt_of_some H3.out.2)).trans H3.out.2
    have bA := H3.out.1.trans (b4.mono (by omega))
    have r4 := (bA.block _ (lt_of_some HY2.out.2)).trans HY2.out.2
    have o4 := HM.out.2.below bA
    have H4 := Lib.hid (And.intro m4 (And.intro r4 (And.intro o4 (And.intro hML hMl))))
    have c0 := cell_blk m4 0 rfl
    have c1 := cell_blk m4 1 rfl
    have c2 := cell_blk m4 2 rfl
    have c3 := cell_blk m4 3 rfl
    have c4 := cell_blk m4 4 rfl
    have c5 := cell_blk m4 5 rfl
    have f3 := free_blk m4 3
    have l4 := lt_of_some m4
    simp at c0 c1 c2 c3 c4 c5
    rw [hMl] at c3
    clear b4 m4 bA r4 o4 hML
    rcases atD_cases L name with ⟨ea, hnot⟩ | ⟨i, ea, hfi, hi⟩
    · rw [ea]
      have hEE := HE.out.2.1 trivial (by exact hnot)
      cases hEE
      obtain ⟨d0, d1, d2, d3, d4, d5, ld⟩ := box_cells (N := Nd.zero) H4.out.2.1
      simp only [Nd.zero, List.length_nil] at d0 d1 d2 d3 d4 d5
      have g0 := fun j => free_blk H4.out.2.1 j
      clear ea hnot
      go_wp2
      obtain ⟨hE, hFr⟩ := six_cells H4.out.2.1 (.int .i64 M.kind) (.string M.name) (.slice M.da M.data.length M.dc) (.slice M.aa n M.ac) (.int .u32 M.slot) (.int .u32 M.gen)
      have r0 := cell_blk hE 0 rfl
      have r1 := cell_blk hE 1 rfl
      have r2 := cell_blk hE 2 rfl
      have r3 := cell_blk hE 3 rfl
      have r4 := cell_blk hE 4 rfl
      have r5 := cell_blk hE 5 rfl
      have hs4 := B4.out.size
      exact bodyPost_ret (v := .tuple #[.agg #[.int .i64 M.kind, .string M.name, .slice M.da M.data.length M.dc, .slice M.aa n M.ac, .int .u32 M.slot, .int .u32 M.gen], .bool false, .int .i64 0]) (by simp [results, Try.results34, go_sem, r0, r1, r2, r3, r4, r5]) rfl ⟨M, by rw [hMl], HM.out.1.c, H4.out.2.2.1.fr30 hFr, B4.out.trans ((hFr.below (by omega)).mono (by omega))⟩
    · rw [ea]
      have hEE := HE.out.2.2 trivial i hfi hi
      cases hEE
      rw [← HN.out] at hi
      have p0 : ¬ (i : Int) < 0 := by omega
      have p1 : (i : Int) ≤ (n : Int) := by omega
      have p2 : (i : Int) + 1 ≤ (n : Int) := by omega
      have p3 : (0 : Int) ≤ (i : Int) := by omega
      have hac := row_cap H4.out.2.2.1.attrs
      have p4 : (i : Int) ≤ (M.ac : Int) := by omega
      have p5 : (i : Int) + 1 ≤ (M.ac : Int) := by omega
      have q1 : IntKind.i64.wrap ((i : Int) + 1) = (i : Int) + 1 := IntWalk.i64_in _ (by omega)
      obtain ⟨i72, hi72, ia1, ia2, ia3⟩ := info_parts info72
      have HSA := Lib.hid (OwnNd.nd H4.out.2.2.1).attrs
      have hT := src_take HSA.out (i := i) (by omega)
      have HT := Lib.hid (hT.below ((Below.refl _ w4).alloc (Nat.le_refl _) (.cells #[] 72)))
      clear ea hfi hac hT
      go_wp2_with (at_builtin; refine wpList_append_any _ rfl (.tmp 23) (.tmp 27) 25 rfl w4.heap.size 72 i72 _ 2 40 Try.underlying25 hi72 ia1 ia2 ia3 rfl (by omega) _ 0 [] rfl (World.ownsRow_lit w4 #[] 0 (Nat.le_refl _) (by decide) rfl) M.aa i M.ac (cellsA (M.L.take i)) rfl HT.out.len HT.out.app HT.out.one (by unfold maxLen; omega) (by omega) (by simp) ?_)
      intro a5 c5' w5 hown5 hgrow5
      have f5 : FrT [72] w4.heap.size w4 w5 := ((FrT.refl _ _ _).alloc _).append (World.ownsRow_lit (size := 2) w4 #[] 0 (Nat.le_refl _) (by decide) rfl) (Nat.le_refl _) (by simp) hgrow5
      have b45 := f5.below (Nat.le_refl _)
      have m5 := f5.blk H4.out.1 (by decide)
      have s5 := b45.size
      have c03 := cell_blk m5 3 rfl
      have l5 := lt_of_some m5
      have f35 := free_blk m5 3
      simp at c03
      rw [hMl] at c03
      try rw [List.nil_append, Nat.zero_add] at hown5
      have H5 := Lib.hid (And.intro f5 (And.intro b45 (And.intro m5 hown5)))
      clear f5 b45 m5 hown5 hgrow5 c0 c1 c2 c3 c4 c5 f3 l4
      try rw [Nat.zero_add]
      have HS2 : Hid (∀ A, A = M.aa.map (·.add ((i + 1) * 2)) ∨ n = i + 1 → RowSrc w5 2 A (n - (i + 1)) (cellsA (M.L.drop (i + 1)))) := Lib.hid (fun A hA => by
        have h := (src_drop (A := A) HSA.out (i := i) (by omega) (by rw [hMl]; exact hA)).below H5.out.2.1
        rw [hMl] at h
        exact h)
      have HNAC : Hid (M.ac = i + 1 → n = i + 1) := Lib.hid (fun h => by have := (row_cap H4.out.2.2.1.attrs).2.1; omega)
      have q2 : ((i : Int) + 1).toNat = i + 1 := by omega
      have HO5 := Lib.hid H5.out.2.2.2
      by_cases hac : M.ac = i + 1
      all_goals
        go_wp2_with (at_builtin; refine wpList_append_any _ rfl (.tmp 29) (.tmp 34) 25 rfl w4.heap.size 72 i72 _ 2 40 Try.underlying25 hi72 ia1 ia2 ia3 rfl (by omega) _ i (cellsA (M.L.take i)) rfl HO5.out _ (n - (i + 1)) _ (cellsA (M.L.drop (i + 1))) rfl (HS2.out _ (by first | exact .inl rfl | exact .inr (HNAC.out (by assumption)))).len (HS2.out _ (by first | exact .inl rfl | exact .inr (HNAC.out (by assumption)))).app (HS2.out _ (by first | exact .inl rfl | exact .inr (HNAC.out (by assumption)))).one (by unfold maxLen; omega) (by omega) s5 ?_)
        intro a6 c6 w6 hown6 hgrow6
        have f6 : FrT [72] w4.heap.size w5 w6 := (FrT.refl _ _ _).append HO5.out (Nat.le_refl _) (by simp) hgrow6
        obtain ⟨T, hT⟩ : ∃ T, T = i + (n - (i + 1)) := ⟨_, rfl⟩
        rw [← hT] at hown6 ⊢
        have m6 := f6.blk H5.out.2.2.1 (by decide)
        have d6 := f6.blk (H5.out.1.blk H4.out.2.1 (by decide)) (by decide)
        have s6 := f6.size
        have c03 := cell_blk m6 3 rfl
        have f36 := free_blk m6 3
        have l6 := lt_of_some m6
        simp at c03
        rw [hMl] at c03
        have H6 := Lib.hid (And.intro f6 (And.intro m6 (And.intro d6 (And.intro hown6 hT))))
        clear f6 m6 d6 hown6 hgrow6 hT l5 f35 p0 p1 p2 p3 p4 p5 q1 q2
        go_upto_region 10 with fail
        obtain ⟨W7, hW7⟩ : ∃ W7, W7 = w6.setCell ⟨w2.heap.size, 3, none⟩ (.slice a6 T c6) := ⟨_, rfl⟩
        rw [← hW7]
        have k7 := set_blk H6.out.2.1 3 (.slice a6 T c6)
        have d7 : W7.heap[w.heap.size + 1]? = some (.cells Nd.zero.cells 30 (0, 0)) := by rw [hW7]; exact set_other H6.out.2.2.1 (by simp; omega) _
        have row7 := rwOther H6.out.2.2.2.1 H6.out.2.1 (by decide) 3 (.slice a6 T c6)
        rw [← hW7] at k7 row7
        have fr7 : FrT [72, 30] w4.heap.size w4 w6 := (H5.out.1.trans H6.out.1).mono (fun x hx => by simp at hx; subst hx; simp) (Nat.le_refl _)
        have sz7 : W7.heap.size = w6.heap.size := by rw [hW7]; simp
        have o7 : ∀ {e : TypeId} {size : Nat} {v : Value} {m : Nat} {ys : List Value}, e ≠ 30 → e ≠ 72 ∨ True → w4.ownsRow w.heap.size e size v m ys → (∀ y, v.ownBlock = some y → y < w4.heap.size) → W7.ownsRow w.heap.size e size v m ys := fun he _ hr hlt => by
          have h1 : w6.ownsRow w.heap.size _ _ _ _ _ := (H5.out.1.trans H6.out.1).rowLt hr hlt
          rw [hW7]
          exact rwOther h1 H6.out.2.1 he 3 _
        have z0 := cell_blk k7 0 rfl
        have z1 := cell_blk k7 1 rfl
        have z2 := cell_blk k7 2 rfl
        have z3 := cell_blk k7 3 rfl
        have z4 := cell_blk k7 4 rfl
        have z5 := cell_blk k7 5 rfl
        have lz := lt_of_some k7
        obtain ⟨d0, d1, d2, d3, d4, d5, ld⟩ := box_cells d7
        simp only [Nd.zero, List.length_nil] at d0 d1 d2 d3 d4 d5
        have g0 := fun j => free_blk d7 j
        simp at z0 z1 z2 z3 z4 z5
        have b7 : Below w.heap.size w W7 := by rw [hW7]; exact (B4.out.trans (((H5.out.1.trans H6.out.1).below (Nat.le_refl _)).mono (by have := B4.out.size; omega))).setCell (by simp; omega) _
        have H7 := Lib.hid (And.intro d7 (And.intro row7 (And.intro @o7 b7)))
        clear k7 d7 row7 fr7 o7 b7 hW7 c03 f36 l6
        go_wp2
        obtain ⟨hE, hFr⟩ := six_cells H7.out.1 (.int .i64 M.kind) (.string M.name) (.slice M.da M.data.length M.dc) (.slice a6 T c6) (.int .u32 M.slot) (.int .u32 M.gen)
        have r0 := cell_blk hE 0 rfl
        have r1 := cell_blk hE 1 rfl
        have r2 := cell_blk hE 2 rfl
        have r3 := cell_blk hE 3 rfl
        have r4 := cell_blk hE 4 rfl
        have r5 := cell_blk hE 5 rfl
        have o4 := H4.out.2.2.1
        have hs4 := B4.out.size
        have hTl : (M.L.take i ++ M.L.drop (i + 1)).length = T := by rw [List.length_append, List.length_take, List.length_drop, hMl, H6.out.2.2.2.2]; omega
        have hmem : ∀ y ∈ M.L.take i ++ M.L.drop (i + 1), y ∈ M.L := fun y hy => by
          rcases List.mem_append.1 hy with hy | hy
          · exact List.mem_of_mem_take hy
          · exact List.mem_of_mem_drop hy
        have hown : OwnNd w.heap.size W7 ⟨M.kind, M.name, M.da, M.dc, M.data, a6, c6, M.L.take i ++ M.L.drop (i + 1), M.slot, M.gen⟩ := by
          refine ⟨H7.out.2.2.1 (by decide) (.inr trivial) o4.data (fun y hy => (o4.data.lt y hy).2), o4.bnd, ?_, fun y hy => ?_, fun y hy => o4.nams y (hmem y hy), o4.nam, ⟨o4.bd.data, ?_, fun y hy => o4.bd.val y (hmem y hy)⟩⟩
          · simp only [hTl, cellsA_append]
            exact H7.out.2.1.mono hs4
          · have hc := o4.val y (hmem y hy)
            obtain ⟨cap, hr⟩ := hc.row
            exact ⟨⟨cap, H7.out.2.2.1 (by decide) (.inr trivial) hr (fun y hy => (hr.lt y hy).2)⟩, hc.bnd, hc.len⟩
          · simp only [hTl]; rw [H6.out.2.2.2.2]; omega
        refine bodyPost_ret (v := .tuple #[.agg #[.int .i64 M.kind, .string M.name, .slice M.da M.data.length M.dc, .slice a6 T c6, .int .u32 M.slot, .int .u32 M.gen], .bool true, .int .i64 0]) (by simp [results, Try.results34, go_sem, r0, r1, r2, r3, r4, r5]) rfl ⟨⟨M.kind, M.name, M.da, M.dc, M.data, a6, c6, M.L.take i ++ M.L.drop (i + 1), M.slot, M.gen⟩, by simp only [hTl], ?_, hown.fr30 hFr, H7.out.2.2.2.trans ((hFr.below (by omega)).mono (by omega))⟩
        have hc := HM.out.1.c
        unfold Nd.c at hc ⊢
        simp only [NC.mk.injEq] at hc ⊢
        exact ⟨hc.1, hc.2.1, hc.2.2.1, erase_map H4.out.2.2.2.1 i, hc.2.2.2.2⟩
  · have eE := HE.out.1 hk
    cases eE
    have hk2 : (k == 1) = false := by simpa using hk
    have z0 := cell_blk HX.out.2.1 0 rfl
    have z1 := cell_blk HX.out.2.1 1 rfl
    have z2 := cell_blk HX.out.2.1 2 rfl
    have z3 := cell_blk HX.out.2.1 3 rfl
    have z4 := cell_blk HX.out.2.1 4 rfl
    have z5 := cell_blk HX.out.2.1 5 rfl
    simp at z2 z3
    rw [hV2] at z0 z1 z2 z3 z4 z5
    clear x0 x1
    go_enter Try.func34, Try.ntmps34
    go_wp2
    exact bodyPost_ret (v := .tuple #[.agg #[.int .i64 0, .string ⟨#[]⟩, .slice none 0 0, .slice none 0 0, .int .u32 0, .int .u32 0], .bool false, .int .i64 63]) (by simp [results, Try.results34, go_sem, z0, z1, z2, z3, z4, z5]) rfl ⟨Nd.zero, rfl, rfl, OwnNd.zero _ _, by rw [← hV2]; exact HX.out.2.2.1⟩
end Go.Proofs.Ytelhnaphkbpakaa

