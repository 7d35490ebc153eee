/- SetAttr: an attribute is given a value. -/
import Derived.Deep.RegionHeld3
import Derived.Test.YtelhnaphkbpakaaMl15
namespace Go.Proofs.Ytelhnaphkbpakaa
open Go.RowKit
set_option linter.unusedVariables false
set_option maxRecDepth 100000

/-- What a node has. -/
structure NC where
  kind : Int
  name : ByteArray
  data : List Nat
  attrs : List (ByteArray × List Nat)
  slot : Int
  gen : Int
def Nd.c (N : Nd) : NC := ⟨N.kind, N.name, N.data, N.L.map attrOf, N.slot, N.gen⟩
theorem Nd.Same.c {M N : Nd} (h : M.Same N) : M.c = N.c := by unfold Nd.c; rw [h.kind, h.name, h.data, h.attrs, h.slot, h.gen]
def NC.zero : NC := ⟨0, ⟨#[]⟩, [], [], 0, 0⟩
def Nd.zero : Nd := ⟨0, ⟨#[]⟩, none, 0, [], none, 0, [], 0, 0⟩
theorem Nd.zero_c : Nd.zero.c = NC.zero := rfl
theorem Clip16.nil (B : Nat) (w : World) : Clip16 B w none [] := ⟨⟨0, World.ownsRow_nil _ _ _ _⟩, by simp, by simp⟩
theorem Fresh.zero (B : Nat) (w : World) : Fresh B w Nd.zero := ⟨Clip16.nil B w, rfl, ⟨⟨0, World.ownsRow_nil _ _ _ _⟩, (fun _ hx => absurd hx (List.not_mem_nil)), (fun _ hx => absurd hx (List.not_mem_nil))⟩, rfl, by decide, by decide⟩
theorem Clip16.mono {B B' : Nat} {w : World} {a : Option Addr} {us : List Nat} (h : Clip16 B w a us) (hB : B' ≤ B) : Clip16 B' w a us := ⟨by obtain ⟨cap, hr⟩ := h.row; exact ⟨cap, hr.mono hB⟩, h.bnd, h.len⟩
theorem ClipA.mono {B B' : Nat} {w : World} {a : Option Addr} {L : List LA} (h : ClipA B w a L) (hB : B' ≤ B) : ClipA B' w a L := ⟨by obtain ⟨cap, hr⟩ := h.row; exact ⟨cap, hr.mono hB⟩, fun x hx => ⟨(h.val x hx).1.mono hB, (h.val x hx).2⟩, h.nam⟩
theorem Fresh.mono {B B' : Nat} {w : World} {N : Nd} (h : Fresh B w N) (hB : B' ≤ B) : Fresh B' w N := ⟨h.data.mono hB, h.dc, h.attrs.mono hB, h.ac, h.nam, h.len⟩

theorem Clip16.frt {B C : Nat} {w w' : World} {a : Option Addr} {us : List Nat} (h : Clip16 B w a us) (f : FrT [30] C w w') : Clip16 B w' a us := ⟨by obtain ⟨cap, hr⟩ := h.row; exact ⟨cap, f.row hr (by decide)⟩, h.bnd, h.len⟩
theorem Fresh.frt {B C : Nat} {w w' : World} {N : Nd} (h : Fresh B w N) (f : FrT [30] C w w') : Fresh B w' N :=
  ⟨h.data.frt f, h.dc, ⟨by obtain ⟨cap, hr⟩ := h.attrs.row; exact ⟨cap, f.row hr (by decide)⟩, fun x hx => ⟨(h.attrs.val x hx).1.frt f, (h.attrs.val x hx).2⟩, h.attrs.nam⟩, h.ac, h.nam, h.len⟩

theorem clipA_calls (a : Option Addr) (n cap : Nat) (hn : n ≤ cap) (hm : cap ≤ 9223372036854775807) (w : World) :
    Calls Try.prog 73 #[.slice a n cap] w fun e w' => e = .returned (.slice a n n) ∧ w = w' := by
  have p1 : (n : Int) ≤ (cap : Int) := by omega
  go_enter Try.func73, Try.ntmps73
  go_wp2
  go_ret
  exact ⟨rfl, rfl⟩

def isNm2 (name : ByteArray) (x : ByteArray × List Nat) : Bool := x.1.toList == name.toList
/-- The attributes, one set. -/
def setD (l : List (ByteArray × List Nat)) (name : ByteArray) (v : List Nat) : List (ByteArray × List Nat) :=
  if l.findIdx (isNm2 name) < l.length then l.modify (l.findIdx (isNm2 name)) (fun x => (x.1, v)) else l ++ [(name, v)]
def setAttrD (N : NC) (name : ByteArray) (v : List Nat) : NC × Int :=
  if N.kind ≠ 1 then (NC.zero, 63) else if namedD name = false then (NC.zero, 62) else ({ N with attrs := setD N.attrs name v }, 0)
theorem findIdx_map (L : List LA) (name : ByteArray) : (L.map attrOf).findIdx (isNm2 name) = L.findIdx (isNm name) := by
  rw [List.findIdx_map]; rfl

theorem set_modify {L : List LA} {i : Nat} {x : LA} {us : List Nat} (h : L[i]? = some x) {y : LA} (hy : attrOf y = (x.name, us)) : (L.set i y).map attrOf = (L.map attrOf).modify i (fun x => (x.1, us)) := by
  apply List.ext_getElem?
  intro j
  rw [List.getElem?_modify, List.getElem?_map, List.getElem?_map]
  by_cases e : i = j
  · subst e
    rw [List.getElem?_set_self (List.getElem?_eq_some_iff.1 h).1, h]
    rw [Option.map_some, hy]
    simp [attrOf]
  · rw [List.getElem?_set_ne e]
    cases L[j]? <;> simp [e]
theorem cellsA_set {L : List LA} {i : Nat} {x : LA} (h : L[i]? = some x) {a : Option Addr} {us : List Nat} : cellsA (L.set i ⟨x.name, a, us.length, us⟩) = (cellsA L).set (i * 2 + 1) (.slice a us.length us.length) := by
  induction L generalizing i with
  | nil => simp at h
  | cons y l ih =>
    have e (z : LA) (m : List LA) : cellsA (z :: m) = .string z.name :: .slice z.va z.val.length z.vc :: cellsA m := rfl
    cases i with
    | zero =>
      obtain rfl : y = x := by simpa using h
      rfl
    | succ i =>
      have h2 : l[i]? = some x := by simpa using h
      rw [List.set_cons_succ, e, e, ih h2, show (i + 1) * 2 + 1 = (i * 2 + 1) + 1 + 1 by omega]
      rfl

set_option maxHeartbeats 8000000 in
theorem setattr_calls (w : World) (N : Nd) (h : NdIn w N) (hB : N.Bd 1099511627776) (name : ByteArray) (hns : name.size ≤ 9223372036854775807) {va : Option Addr} {us : List Nat} (vc : Nat) (hV : Sl16 w va us) (hvl : us.length ≤ 1099511627776) :
    Calls Try.prog 31 #[N.v, .string name, .slice va us.length vc] w fun e w' => ∃ M : Nd, e = .returned (.tuple #[M.v, .int .i64 (setAttrD N.c name us).2]) ∧ M.c = (setAttrD N.c name us).1 ∧ Fresh w.heap.size w' M ∧ Below w.heap.size w w' := by
  have hat := fun w' (b : Below w.heap.size w w') => at_calls w' N (h.below b) name
  have hcl := fun w' (b : Below w.heap.size w w') => clone_calls w' N (h.below b) hB
  obtain ⟨k, nm, da, dc, data, aa, ac, L, sl, ge⟩ := N
  have hNl := hB.attrs
  simp only [Nd.v, Nd.cells] at *
  obtain ⟨n, en⟩ : ∃ n, n = L.length := ⟨_, rfl⟩
  obtain ⟨vl, el⟩ : ∃ vl, vl = us.length := ⟨_, rfl⟩
  rw [← en] at hat hcl hNl
  rw [← el] at hvl ⊢
  have HN := Lib.hid en
  have HL := Lib.hid el
  have HV := Lib.hid hV
  have HAT := Lib.hid hat
  have HCL := Lib.hid hcl
  rw [← en]
  clear en el hV hat hcl h hB
  have HB0 := Lib.hid ((Below.refl w.heap.size w).alloc (Nat.le_refl _) (.cells #[.int .i64 k, .string nm, .slice da data.length dc, .slice aa n ac, .int .u32 sl, .int .u32 ge] 30))
  have HB1 := Lib.hid (HB0.out.alloc (by simp) (.cells #[.int .i64 0, .string ⟨#[]⟩, .slice none 0 0, .slice none 0 0, .int .u32 0, .int .u32 0] 30))
  have x1 : ((w.alloc (.cells #[.int .i64 k, .string nm, .slice da data.length dc, .slice aa n ac, .int .u32 sl, .int .u32 ge] 30)).alloc (.cells #[.int .i64 0, .string ⟨#[]⟩, .slice none 0 0, .slice none 0 0, .int .u32 0, .int .u32 0] 30)).heap[w.heap.size + 1]? = some (.cells #[.int .i64 0, .string ⟨#[]⟩, .slice none 0 0, .slice none 0 0, .int .u32 0, .int .u32 0] 30 (0, 0)) := by
    have := Go.heap_alloc_new (w.alloc (.cells #[.int .i64 k, .string nm, .slice da data.length dc, .slice aa n ac, .int .u32 sl, .int .u32 ge] 30)) (.cells #[.int .i64 0, .string ⟨#[]⟩, .slice none 0 0, .slice none 0 0, .int .u32 0, .int .u32 0] 30); rwa [World.size_alloc] at this
  have X1 := Lib.hid x1
  clear x1
  have z0 := cell_blk X1.out 0 rfl
  have z1 := cell_blk X1.out 1 rfl
  have z2 := cell_blk X1.out 2 rfl
  have z3 := cell_blk X1.out 3 rfl
  have z4 := cell_blk X1.out 4 rfl
  have z5 := cell_blk X1.out 5 rfl
  have HZ := Lib.hid (And.intro z0 (And.intro z1 (And.intro z2 (And.intro z3 (And.intro z4 z5)))))
  clear z0 z1 z2 z3 z4 z5
  by_cases hk : k = 1
  · subst hk
    cases hnd : namedD name with
    | true =>
      have hres : setAttrD (Nd.c ⟨1, nm, da, dc, data, aa, ac, L, sl, ge⟩) name us = ({ Nd.c ⟨1, nm, da, dc, data, aa, ac, L, sl, ge⟩ with attrs := setD (L.map attrOf) name us }, 0) := by unfold setAttrD; rw [if_neg (fun h => h rfl), if_neg (by rw [hnd]; simp)]; rfl
      rw [hres]
      have HND := Lib.hid hnd
      have HNM := Lib.hid (named_calls ((w.alloc (.cells #[.int .i64 1, .string nm, .slice da data.length dc, .slice aa n ac, .int .u32 sl, .int .u32 ge] 30)).alloc (.cells #[.int .i64 0, .string ⟨#[]⟩, .slice none 0 0, .slice none 0 0, .int .u32 0, .int .u32 0] 30)) name hns)
      have x0 : ((w.alloc (.cells #[.int .i64 1, .string nm, .slice da data.length dc, .slice aa n ac, .int .u32 sl, .int .u32 ge] 30)).alloc (.cells #[.int .i64 0, .string ⟨#[]⟩, .slice none 0 0, .slice none 0 0, .int .u32 0, .int .u32 0] 30)).heap[w.heap.size]? = some (.cells #[.int .i64 1, .string nm, .slice da data.length dc, .slice aa n ac, .int .u32 sl, .int .u32 ge] 30 (0, 0)) := alloc_blk (Go.heap_alloc_new w _) _
      have X0 := Lib.hid x0
      clear hres hnd x0
      go_enter Try.func31, Try.ntmps31
      go_wp2_with fail
      refine HNM.out.mono ?_
      rw [HND.out]
      rintro e w1 ⟨rfl, b1⟩
      have Y1 := Lib.hid ((b1.block _ (lt_of_some X1.out)).trans X1.out)
      have y0 := (b1.block _ (lt_of_some X0.out)).trans X0.out
      have B1 := Lib.hid (HB1.out.trans (b1.mono (by simp; omega)))
      have c0 := cell_blk y0 0 rfl
      have c1 := cell_blk y0 1 rfl
      have c2 := cell_blk y0 2 rfl
      have c3 := cell_blk y0 3 rfl
      have c4 := cell_blk y0 4 rfl
      have c5 := cell_blk y0 5 rfl
      have l0 := lt_of_some y0
      have Y0 := Lib.hid y0
      clear b1 y0
      simp at c0 c1 c2 c3 c4 c5
      go_wp2_with fail
      refine (HCL.out w1 B1.out).mono ?_
      rintro e w2 ⟨M, rfl, hsame, hfresh, b2⟩
      have hMc := hsame.c
      have hlen := hsame.len
      obtain ⟨k2, nm2, a2, dc2, d2, aa2, ac2, L2, sl2, ge2⟩ := M
      simp only [] at hlen
      obtain ⟨m, em⟩ : ∃ m, m = d2.length := ⟨_, rfl⟩
      simp only [← em]
      rw [hlen, ← HN.out]
      have hac : n = ac2 := by have := hfresh.ac; simp only [] at this; rw [this, hlen, ← HN.out]
      have hdc : m = dc2 := by have := hfresh.dc; simp only [] at this; rw [this, em]
      subst hac hdc
      have FR := Lib.hid hfresh
      have SM := Lib.hid (And.intro hMc (And.intro hlen em))
      have Z1 := Lib.hid ((b2.block _ (lt_of_some Y1.out)).trans Y1.out)
      have l12 : w.heap.size + 1 < w2.heap.size := lt_of_some Z1.out
      have y0 := (b2.block _ (lt_of_some Y0.out)).trans Y0.out
      have B2 := Lib.hid (B1.out.trans (b2.mono (by omega)))
      have hs2 := b2.size
      clear hsame hfresh b2 hMc hlen em c0 c1 c2 c3 c4 c5
      have c0 := cell_blk y0 0 rfl
      have c1 := cell_blk y0 1 rfl
      have c2 := cell_blk y0 2 rfl
      have c3 := cell_blk y0 3 rfl
      have c4 := cell_blk y0 4 rfl
      have c5 := cell_blk y0 5 rfl
      have l2 := lt_of_some y0
      simp at c0 c1 c2 c3 c4 c5
      clear y0 Y0 Y1
      go_wp2_with fail
      obtain ⟨W, hW⟩ : ∃ W, W = w2.alloc (.cells #[.int .i64 k2, .string nm2, .slice a2 m m, .slice aa2 n n, .int .u32 sl2, .int .u32 ge2] 30) := ⟨_, rfl⟩
      have hbW : Below w2.heap.size w2 W := by rw [hW]; exact (Below.refl _ w2).alloc (Nat.le_refl _) _
      have hWx : W.heap[w2.heap.size]? = some (.cells #[.int .i64 k2, .string nm2, .slice a2 m m, .slice aa2 n n, .int .u32 sl2, .int .u32 ge2] 30 (0, 0)) := by rw [hW]; exact Go.heap_alloc_new w2 _
      rw [← hW]
      refine (HAT.out W (B2.out.trans (hbW.mono (by omega)))).mono ?_
      rintro e w4 ⟨rfl, b4⟩
      have hs4 : W.heap.size ≤ w4.heap.size := b4.size
      have hWl : w2.heap.size < W.heap.size := lt_of_some hWx
      have x8 := (b4.block _ hWl).trans hWx
      have b24 : Below w2.heap.size w2 w4 := hbW.trans (b4.mono (by omega))
      have FR4 := Lib.hid (FR.out.below b24)
      have T1 := Lib.hid ((b24.block _ (lt_of_some Z1.out)).trans Z1.out)
      have B4 := Lib.hid (B2.out.trans (b24.mono (by omega)))
      have HV4 := Lib.hid (HV.out.below B4.out)
      have X8 := Lib.hid x8
      have d3 := cell_blk x8 3 rfl
      have l8 := lt_of_some x8
      simp at d3
      clear hW hbW hWx b4 b24 x8 FR Z1 B2 c0 c1 c2 c3 c4 c5 l2
      cases hf : L.find? (isNm name) with
      | none =>
        have hia := atD_none hf
        rw [hia]
        have hfr := FR4.out
        have HOWN := Lib.hid (show Calls Try.prog 64 #[.slice va vl vc] w4.drew fun e w' => ∃ a', e = .returned (.slice a' vl vl) ∧ Clip16 w4.heap.size w' a' us ∧ Below w4.heap.size w4.drew w' by
          have h := own_calls w4.drew vc (HV4.out.below ((Below.refl _ w4).drew)) (by rw [← HL.out]; exact hvl)
          rw [← HL.out] at h
          exact h)
        have HDB := Lib.hid ((Below.refl w4.heap.size w4).drew)
        obtain ⟨cap2, hrow2⟩ := hfr.attrs.row
        simp only [] at hrow2
        rw [SM.out.2.1, ← HN.out] at hrow2
        obtain ⟨i72, hi72, ia1, ia2, ia3⟩ := info_parts info72
        have HROW := Lib.hid hrow2
        have HATF := Lib.hid (And.intro hia hf)
        clear hfr hrow2 hia hf
        go_wp2_with fail
        have HOL : Hid (∀ w', Below w4.heap.size w4 w' → ∀ (j : Nat) (u : Value), (cellsA L2)[j]? = some u → ∃ b, aa2 = some b ∧ w'.cell? (b.add j) = some u) := Lib.hid (fun w' hb j u hu => by
          obtain ⟨b, h1, h2, h3⟩ := row_src (row_below HROW.out hb) hu
          exact ⟨_, h1, by rw [show (⟨b, 0, none⟩ : Addr).add j = ⟨b, 0 + j, none⟩ by unfold Addr.add; split <;> simp_all]; exact h3⟩)
        have HNIL : Hid (aa2 = none → n = 0) := Lib.hid (fun hh => by
          rcases HROW.out.2 with ⟨h1, h2⟩ | ⟨g, cap', cur, h1, _⟩
          · exact h2
          · rw [hh] at h1; cases h1)
        have HLN : Hid ((cellsA L2).length = n * 2) := Lib.hid HROW.out.1
        have HX6 : Hid (∀ w6, Below w4.heap.size w4 w6 → w6.heap[w2.heap.size]? = some (.cells #[.int .i64 k2, .string nm2, .slice a2 m m, .slice aa2 n n, .int .u32 sl2, .int .u32 ge2] 30 (0, 0))) := Lib.hid (fun w6 hb => (hb.block _ l8).trans X8.out)
        -- R9
        refine wp_region_any (by kernel_rfl) ?_
        change wpAny _ _ _ _ _ _ _ (World.drew _)
        refine wpAny_take (i := 0) (v := ?_) rfl (by kernel_rfl) (by kernel_rfl) (by kernel_rfl) (fun _ _ _ h => h) (Or.inl ⟨by rfl, ?_⟩) ?_
        rotate_left
        · intro w; go_simp; try with_reducible rfl
        refine wpAny_take (i := 2) (v := ?_) rfl (by kernel_rfl) (by kernel_rfl) (by kernel_rfl) (fun _ _ _ h => h) (Or.inl ⟨by rfl, ?_⟩) ?_
        rotate_left
        · intro w; go_simp; try with_reducible rfl
        refine wpAny_take (i := 3) (v := ?_) rfl (by kernel_rfl) (by kernel_rfl) (by kernel_rfl) (fun _ _ _ h => h) (Or.inl ⟨by rfl, ?_⟩) ?_
        rotate_left
        · intro w; go_simp; try with_reducible rfl
        refine wpAny_all (rs := [1, 4]) (by kernel_rfl) (by simp) (fun i hi => ?_)
        have hi' : i = 1 ∨ i = 4 := by simpa using hi
        clear hi
        rcases hi' with rfl | rfl
        · refine wpOp_step rfl (fun K hK => ?_)
          go_simp
          refine hK _ _ ?_
          clear hK K
          refine wpAny_all (rs := [4]) (by kernel_rfl) (by simp) (fun i hi => ?_)
          obtain rfl : i = 4 := by simpa using hi
          clear hi
          refine wpOp_step rfl (fun K hK => ?_)
          go_simp
          go_at_call 64
          refine HOWN.out.mono ?_
          rintro e w5 ⟨a5, rfl, hc5, b5⟩
          refine hK _ _ ?_
          clear hK K
          have d5 := (b5.cell (p := ⟨w2.heap.size, 3, none⟩) l8).trans d3
          have l5 := Nat.lt_of_lt_of_le l8 b5.size
          have b45 := Lib.hid ((HDB.out.trans b5).alloc (show w4.heap.size ≤ w5.heap.size from b5.size) (.cells #[.string name, .slice a5 vl vl] 72))
          have HC5 := Lib.hid (And.intro hc5 b5)
          clear hc5 b5
          refine wpAny_take (i := 5) (v := ?_) rfl (by kernel_rfl) (by kernel_rfl) (by kernel_rfl) (fun _ _ _ h => h) (Or.inl ⟨by rfl, ?_⟩) ?_
          rotate_left
          · intro w; go_simp; try with_reducible rfl
          refine wpAny_all (rs := [6]) (by kernel_rfl) (by simp) (fun i hi => ?_)
          obtain rfl : i = 6 := by simpa using hi
          clear hi
          refine wpOp_step rfl (fun K hK => ?_)
          go_simp
          refine hK _ _ ?_
          clear hK K
          refine wpAny_all (rs := [7]) (by kernel_rfl) (by simp) (fun i hi => ?_)
          obtain rfl : i = 7 := by simpa using hi
          clear hi
          refine wpOp_step rfl (fun K hK => ?_)
          refine step_append_full _ rfl (.tmp 35) (.tmp 40) 25 rfl 72 i72 _ 2 40 Try.underlying25 hi72 ia1 ia2 ia3 rfl (by omega) aa2 n (cellsA L2) rfl HLN.out (HOL.out _ b45.out) HNIL.out ⟨w5.heap.size, 0, none⟩ 1 1 [.string name, .slice a5 vl vl] rfl rfl (World.news_of_block (cs := #[.string name, .slice a5 vl vl]) (t := 72) (fr := (0, 0)) (Go.heap_alloc_new w5 _)) (by simp [Value.oneCell']) (by omega) (by unfold maxLen; omega) (by omega) ?_
          intro g6 c6 w6 hown6 hgrow6 hge6
          refine hK _ _ ?_
          clear hK K
          obtain ⟨_, hc6, hc7⟩ := row_cap hown6
          have b46 := b45.out.trans ((grown_below hgrow6 (fun x h => by cases h) (Nat.le_refl _)).mono (by have := b45.out.size; omega))
          have x6 := HX6.out w6 b46
          have d6 := cell_blk x6 3 rfl
          have f6 := free_blk x6 3
          have l6 := lt_of_some x6
          have b56 : Below w5.heap.size w5 w6 := ((Below.refl _ w5).alloc (Nat.le_refl _) _).trans ((grown_below hgrow6 (fun x h => by cases h) (Nat.le_refl _)).mono (by simp))
          have HO6 := Lib.hid (And.intro hown6 (And.intro b46 (And.intro hge6 (And.intro x6 b56))))
          clear b56 hown6 hgrow6 b46 x6 hge6
          refine wpAny_all (rs := [8]) (by kernel_rfl) (by simp) (fun i hi => ?_)
          obtain rfl : i = 8 := by simpa using hi
          clear hi
          refine wpOp_step rfl (fun K hK => ?_)
          go_simp
          go_at_call 73
          refine (clipA_calls _ _ _ hc6 hc7 _).mono ?_
          rintro e w7 ⟨rfl, rfl⟩
          refine hK _ _ ?_
          clear hK K
          refine wpAny_all (rs := [9]) (by kernel_rfl) (by simp) (fun i hi => ?_)
          obtain rfl : i = 9 := by simpa using hi
          clear hi
          refine wpOp_step rfl (fun K hK => ?_)
          go_simp
          refine hK _ _ ?_
          clear hK K
          refine wpAny_all (rs := [10]) (by kernel_rfl) (by simp) (fun i hi => ?_)
          obtain rfl : i = 10 := by simpa using hi
          clear hi
          refine wpOp_step rfl (fun K hK => ?_)
          go_simp
          refine hK _ _ ?_
          clear hK K
          refine wpAny_done (by kernel_rfl) ?_ _
          clear d5 l5 hc6 hc7 d6 f6
          obtain ⟨hown6, b46, hge6, x6, b56⟩ := HO6.out
          have t1 := (b46.block _ (lt_of_some T1.out)).trans T1.out
          have hne : w.heap.size + 1 ≠ w2.heap.size := by omega
          have y8 := set_blk x6 3 (.slice (some ⟨g6, 0, none⟩) (n + 1) (n + 1))
          have y1 := set_other t1 (show w.heap.size + 1 ≠ (⟨w2.heap.size, 3, none⟩ : Addr).block from hne) (.slice (some ⟨g6, 0, none⟩) (n + 1) (n + 1))
          have fS : FrT [30] w2.heap.size w6 (w6.setCell ⟨w2.heap.size, 3, none⟩ (.slice (some ⟨g6, 0, none⟩) (n + 1) (n + 1))) := (FrT.refl _ _ _).set (a := ⟨w2.heap.size, 3, none⟩) (Nat.le_refl _) x6 (by simp) _
          obtain ⟨WS, hWS⟩ : ∃ WS, WS = w6.setCell ⟨w2.heap.size, 3, none⟩ (.slice (some ⟨g6, 0, none⟩) (n + 1) (n + 1)) := ⟨_, rfl⟩
          rw [← hWS] at y8 y1 fS ⊢
          have e0 := cell_blk y8 0 rfl
          have e1 := cell_blk y8 1 rfl
          have e2 := cell_blk y8 2 rfl
          have e3 := cell_blk y8 3 rfl
          have e4 := cell_blk y8 4 rfl
          have e5 := cell_blk y8 5 rfl
          have q0 := cell_blk y1 0 rfl
          have q1 := cell_blk y1 1 rfl
          have q2 := cell_blk y1 2 rfl
          have q3 := cell_blk y1 3 rfl
          have q4 := cell_blk y1 4 rfl
          have q5 := cell_blk y1 5 rfl
          have g0 := fun j => free_blk y1 j
          have le1 := lt_of_some y1
          have le8 := lt_of_some y8
          simp at e0 e1 e2 e3 e4 e5 q0 q1 q2 q3 q4 q5
          have HY := Lib.hid (And.intro y1 (And.intro fS (And.intro b46 (And.intro b56 hown6))))
          clear t1 y8 y1 fS hWS b46 b56 hown6 x6 hge6
          go_wp2
          obtain ⟨y1, fS, b46, b56, hown6⟩ := HY.out
          obtain ⟨hE, hF⟩ := six_cells y1 (.int .i64 k2) (.string nm2) (.slice a2 m m) (.slice (some ⟨g6, 0, none⟩) (n + 1) (n + 1)) (.int .u32 sl2) (.int .u32 ge2)
          have hFF : FrT [30] 0 w6 _ := (fS.mono (fun _ h => h) (Nat.zero_le _)).trans (hF.mono (fun _ h => h) (Nat.zero_le _))
          have r0 := cell_blk hE 0 rfl
          have r1 := cell_blk hE 1 rfl
          have r2 := cell_blk hE 2 rfl
          have r3 := cell_blk hE 3 rfl
          have r4 := cell_blk hE 4 rfl
          have r5 := cell_blk hE 5 rfl
          have hL2 : (L2 ++ [(⟨name, a5, vl, us⟩ : LA)]).length = n + 1 := by rw [List.length_append, SM.out.2.1, ← HN.out]; rfl
          have hbel : Below w.heap.size w _ := B4.out.trans (((b46.mono (by omega)).trans ((fS.below (by have := b46.size; omega)).mono (by omega))).trans ((hF.below (by omega)).mono (by omega)))
          refine bodyPost_ret (v := .tuple #[.agg #[.int .i64 k2, .string nm2, .slice a2 m m, .slice (some ⟨g6, 0, none⟩) (n + 1) (n + 1), .int .u32 sl2, .int .u32 ge2], .int .i64 0]) (by simp [results, Try.results31, go_sem, r0, r1, r2, r3, r4, r5]) rfl ⟨⟨k2, nm2, a2, m, d2, some ⟨g6, 0, none⟩, n + 1, L2 ++ [⟨name, a5, vl, us⟩], sl2, ge2⟩, ?_, ?_, ?_, hbel⟩
          · simp only [hL2, ← SM.out.2.2]
          · have hc := SM.out.1
            unfold Nd.c at hc ⊢
            simp only [NC.mk.injEq] at hc ⊢
            obtain ⟨c1, c2, c3, c4, c5, c6⟩ := hc
            refine ⟨c1, c2, c3, ?_, c5, c6⟩
            have hnf : ¬ (L.map attrOf).findIdx (isNm2 name) < (L.map attrOf).length := by
              rw [findIdx_map, List.length_map]
              intro hh
              have h2 := List.findIdx_getElem (w := hh)
              exact List.find?_eq_none.1 HATF.out.2 _ (List.getElem_mem hh) h2
            unfold setD
            rw [if_neg hnf, List.map_append, c4]
            rfl
          · have hfr6 := ((FR4.out.below b46).frt hFF).mono (show w.heap.size ≤ w1.heap.size by omega)
            refine ⟨hfr6.data, SM.out.2.2, ⟨⟨c6, ?_⟩, ?_, ?_⟩, hL2.symm, hfr6.nam, by simp only [hL2]; omega⟩
            · simp only [hL2]
              have hce : cellsA [(⟨name, a5, vl, us⟩ : LA)] = [.string name, .slice a5 vl vl] := by
                show [Value.string name, Value.slice a5 us.length vl] = _
                rw [← HL.out]
              rw [cellsA_append, hce]
              have h1 := hFF.row hown6 (by decide)
              refine h1.mono (base' := w.heap.size) ?_
              have h5 : w4.heap.size ≤ w5.heap.size := HC5.out.2.size
              rw [World.size_alloc]
              omega
            · intro x hx
              rcases List.mem_append.1 hx with hx | hx
              · exact hfr6.attrs.val x hx
              · obtain rfl := by simpa using hx
                exact ⟨((HC5.out.1.mono (by omega)).below b56).frt hFF, HL.out⟩
            · intro x hx
              rcases List.mem_append.1 hx with hx | hx
              · exact hfr6.attrs.nam x hx
              · obtain rfl := by simpa using hx
                exact hns
        · refine wpOp_step rfl (fun K hK => ?_)
          go_simp
          go_at_call 64
          refine HOWN.out.mono ?_
          rintro e w5 ⟨a5, rfl, hc5, b5⟩
          refine hK _ _ ?_
          clear hK K
          have d5 := (b5.cell (p := ⟨w2.heap.size, 3, none⟩) l8).trans d3
          have l5 := Nat.lt_of_lt_of_le l8 b5.size
          have b45 := Lib.hid ((HDB.out.trans b5).alloc (show w4.heap.size ≤ w5.heap.size from b5.size) (.cells #[.string name, .slice a5 vl vl] 72))
          have HC5 := Lib.hid (And.intro hc5 b5)
          clear hc5 b5
          refine wpAny_take (i := 5) (v := ?_) rfl (by kernel_rfl) (by kernel_rfl) (by kernel_rfl) (fun _ _ _ h => h) (Or.inl ⟨by rfl, ?_⟩) ?_
          rotate_left
          · intro w; go_simp; try with_reducible rfl
          refine wpAny_all (rs := [1, 6]) (by kernel_rfl) (by simp) (fun i hi => ?_)
          have hi' : i = 1 ∨ i = 6 := by simpa using hi
          clear hi
          rcases hi' with rfl | rfl
          · refine wpOp_step rfl (fun K hK => ?_)
            go_simp
            refine hK _ _ ?_
            clear hK K
            refine wpAny_all (rs := [6]) (by kernel_rfl) (by simp) (fun i hi => ?_)
            obtain rfl : i = 6 := by simpa using hi
            clear hi
            refine wpOp_step rfl (fun K hK => ?_)
            go_simp
            refine hK _ _ ?_
            clear hK K
            refine wpAny_all (rs := [7]) (by kernel_rfl) (by simp) (fun i hi => ?_)
            obtain rfl : i = 7 := by simpa using hi
            clear hi
            refine wpOp_step rfl (fun K hK => ?_)
            refine step_append_full _ rfl (.tmp 35) (.tmp 40) 25 rfl 72 i72 _ 2 40 Try.underlying25 hi72 ia1 ia2 ia3 rfl (by omega) aa2 n (cellsA L2) rfl HLN.out (HOL.out _ b45.out) HNIL.out ⟨w5.heap.size, 0, none⟩ 1 1 [.string name, .slice a5 vl vl] rfl rfl (World.news_of_block (cs := #[.string name, .slice a5 vl vl]) (t := 72) (fr := (0, 0)) (Go.heap_alloc_new w5 _)) (by simp [Value.oneCell']) (by omega) (by unfold maxLen; omega) (by omega) ?_
            intro g6 c6 w6 hown6 hgrow6 hge6
            refine hK _ _ ?_
            clear hK K
            obtain ⟨_, hc6, hc7⟩ := row_cap hown6
            have b46 := b45.out.trans ((grown_below hgrow6 (fun x h => by cases h) (Nat.le_refl _)).mono (by have := b45.out.size; omega))
            have x6 := HX6.out w6 b46
            have d6 := cell_blk x6 3 rfl
            have f6 := free_blk x6 3
            have l6 := lt_of_some x6
            have b56 : Below w5.heap.size w5 w6 := ((Below.refl _ w5).alloc (Nat.le_refl _) _).trans ((grown_below hgrow6 (fun x h => by cases h) (Nat.le_refl _)).mono (by simp))
            have HO6 := Lib.hid (And.intro hown6 (And.intro b46 (And.intro hge6 (And.intro x6 b56))))
            clear b56 hown6 hgrow6 b46 x6 hge6
            refine wpAny_all (rs := [8]) (by kernel_rfl) (by simp) (fun i hi => ?_)
            obtain rfl : i = 8 := by simpa using hi
            clear hi
            refine wpOp_step rfl (fun K hK => ?_)
            go_simp
            go_at_call 73
            refine (clipA_calls _ _ _ hc6 hc7 _).mono ?_
            rintro e w7 ⟨rfl, rfl⟩
            refine hK _ _ ?_
            clear hK K
            refine wpAny_all (rs := [9]) (by kernel_rfl) (by simp) (fun i hi => ?_)
            obtain rfl : i = 9 := by simpa using hi
            clear hi
            refine wpOp_step rfl (fun K hK => ?_)
            go_simp
            refine hK _ _ ?_
            clear hK K
            refine wpAny_all (rs := [10]) (by kernel_rfl) (by simp) (fun i hi => ?_)
            obtain rfl : i = 10 := by simpa using hi
            clear hi
            refine wpOp_step rfl (fun K hK => ?_)
            go_simp
            refine hK _ _ ?_
            clear hK K
            refine wpAny_done (by kernel_rfl) ?_ _
            clear d5 l5 hc6 hc7 d6 f6
            obtain ⟨hown6, b46, hge6, x6, b56⟩ := HO6.out
            have t1 := (b46.block _ (lt_of_some T1.out)).trans T1.out
            have hne : w.heap.size + 1 ≠ w2.heap.size := by omega
            have y8 := set_blk x6 3 (.slice (some ⟨g6, 0, none⟩) (n + 1) (n + 1))
            have y1 := set_other t1 (show w.heap.size + 1 ≠ (⟨w2.heap.size, 3, none⟩ : Addr).block from hne) (.slice (some ⟨g6, 0, none⟩) (n + 1) (n + 1))
            have fS : FrT [30] w2.heap.size w6 (w6.setCell ⟨w2.heap.size, 3, none⟩ (.slice (some ⟨g6, 0, none⟩) (n + 1) (n + 1))) := (FrT.refl _ _ _).set (a := ⟨w2.heap.size, 3, none⟩) (Nat.le_refl _) x6 (by simp) _
            obtain ⟨WS, hWS⟩ : ∃ WS, WS = w6.setCell ⟨w2.heap.size, 3, none⟩ (.slice (some ⟨g6, 0, none⟩) (n + 1) (n + 1)) := ⟨_, rfl⟩
            rw [← hWS] at y8 y1 fS ⊢
            have e0 := cell_blk y8 0 rfl
            have e1 := cell_blk y8 1 rfl
            have e2 := cell_blk y8 2 rfl
            have e3 := cell_blk y8 3 rfl
            have e4 := cell_blk y8 4 rfl
            have e5 := cell_blk y8 5 rfl
            have q0 := cell_blk y1 0 rfl
            have q1 := cell_blk y1 1 rfl
            have q2 := cell_blk y1 2 rfl
            have q3 := cell_blk y1 3 rfl
            have q4 := cell_blk y1 4 rfl
            have q5 := cell_blk y1 5 rfl
            have g0 := fun j => free_blk y1 j
            have le1 := lt_of_some y1
            have le8 := lt_of_some y8
            simp at e0 e1 e2 e3 e4 e5 q0 q1 q2 q3 q4 q5
            have HY := Lib.hid (And.intro y1 (And.intro fS (And.intro b46 (And.intro b56 hown6))))
            clear t1 y8 y1 fS hWS b46 b56 hown6 x6 hge6
            go_wp2
            obtain ⟨y1, fS, b46, b56, hown6⟩ := HY.out
            obtain ⟨hE, hF⟩ := six_cells y1 (.int .i64 k2) (.string nm2) (.slice a2 m m) (.slice (some ⟨g6, 0, none⟩) (n + 1) (n + 1)) (.int .u32 sl2) (.int .u32 ge2)
            have hFF : FrT [30] 0 w6 _ := (fS.mono (fun _ h => h) (Nat.zero_le _)).trans (hF.mono (fun _ h => h) (Nat.zero_le _))
            have r0 := cell_blk hE 0 rfl
            have r1 := cell_blk hE 1 rfl
            have r2 := cell_blk hE 2 rfl
            have r3 := cell_blk hE 3 rfl
            have r4 := cell_blk hE 4 rfl
            have r5 := cell_blk hE 5 rfl
            have hL2 : (L2 ++ [(⟨name, a5, vl, us⟩ : LA)]).length = n + 1 := by rw [List.length_append, SM.out.2.1, ← HN.out]; rfl
            have hbel : Below w.heap.size w _ := B4.out.trans (((b46.mono (by omega)).trans ((fS.below (by have := b46.size; omega)).mono (by omega))).trans ((hF.below (by omega)).mono (by omega)))
            refine bodyPost_ret (v := .tuple #[.agg #[.int .i64 k2, .string nm2, .slice a2 m m, .slice (some ⟨g6, 0, none⟩) (n + 1) (n + 1), .int .u32 sl2, .int .u32 ge2], .int .i64 0]) (by simp [results, Try.results31, go_sem, r0, r1, r2, r3, r4, r5]) rfl ⟨⟨k2, nm2, a2, m, d2, some ⟨g6, 0, none⟩, n + 1, L2 ++ [⟨name, a5, vl, us⟩], sl2, ge2⟩, ?_, ?_, ?_, hbel⟩
            · simp only [hL2, ← SM.out.2.2]
            · have hc := SM.out.1
              unfold Nd.c at hc ⊢
              simp only [NC.mk.injEq] at hc ⊢
              obtain ⟨c1, c2, c3, c4, c5, c6⟩ := hc
              refine ⟨c1, c2, c3, ?_, c5, c6⟩
              have hnf : ¬ (L.map attrOf).findIdx (isNm2 name) < (L.map attrOf).length := by
                rw [findIdx_map, List.length_map]
                intro hh
                have h2 := List.findIdx_getElem (w := hh)
                exact List.find?_eq_none.1 HATF.out.2 _ (List.getElem_mem hh) h2
              unfold setD
              rw [if_neg hnf, List.map_append, c4]
              rfl
            · have hfr6 := ((FR4.out.below b46).frt hFF).mono (show w.heap.size ≤ w1.heap.size by omega)
              refine ⟨hfr6.data, SM.out.2.2, ⟨⟨c6, ?_⟩, ?_, ?_⟩, hL2.symm, hfr6.nam, by simp only [hL2]; omega⟩
              · simp only [hL2]
                have hce : cellsA [(⟨name, a5, vl, us⟩ : LA)] = [.string name, .slice a5 vl vl] := by
                  show [Value.string name, Value.slice a5 us.length vl] = _
                  rw [← HL.out]
                rw [cellsA_append, hce]
                have h1 := hFF.row hown6 (by decide)
                refine h1.mono (base' := w.heap.size) ?_
                have h5 : w4.heap.size ≤ w5.heap.size := HC5.out.2.size
                rw [World.size_alloc]
                omega
              · intro x hx
                rcases List.mem_append.1 hx with hx | hx
                · exact hfr6.attrs.val x hx
                · obtain rfl := by simpa using hx
                  exact ⟨((HC5.out.1.mono (by omega)).below b56).frt hFF, HL.out⟩
              · intro x hx
                rcases List.mem_append.1 hx with hx | hx
                · exact hfr6.attrs.nam x hx
                · obtain rfl := by simpa using hx
                  exact hns
          · refine wpOp_step rfl (fun K hK => ?_)
            go_simp
            refine hK _ _ ?_
            clear hK K
            refine wpAny_all (rs := [1]) (by kernel_rfl) (by simp) (fun i hi => ?_)
            obtain rfl : i = 1 := by simpa using hi
            clear hi
            refine wpOp_step rfl (fun K hK => ?_)
            go_simp
            refine hK _ _ ?_
            clear hK K
            refine wpAny_all (rs := [7]) (by kernel_rfl) (by simp) (fun i hi => ?_)
            obtain rfl : i = 7 := by simpa using hi
            clear hi
            refine wpOp_step rfl (fun K hK => ?_)
            refine step_append_full _ rfl (.tmp 35) (.tmp 40) 25 rfl 72 i72 _ 2 40 Try.underlying25 hi72 ia1 ia2 ia3 rfl (by omega) aa2 n (cellsA L2) rfl HLN.out (HOL.out _ b45.out) HNIL.out ⟨w5.heap.size, 0, none⟩ 1 1 [.string name, .slice a5 vl vl] rfl rfl (World.news_of_block (cs := #[.string name, .slice a5 vl vl]) (t := 72) (fr := (0, 0)) (Go.heap_alloc_new w5 _)) (by simp [Value.oneCell']) (by omega) (by unfold maxLen; omega) (by omega) ?_
            intro g6 c6 w6 hown6 hgrow6 hge6
            refine hK _ _ ?_
            clear hK K
            obtain ⟨_, hc6, hc7⟩ := row_cap hown6
            have b46 := b45.out.trans ((grown_below hgrow6 (fun x h => by cases h) (Nat.le_refl _)).mono (by have := b45.out.size; omega))
            have x6 := HX6.out w6 b46
            have d6 := cell_blk x6 3 rfl
            have f6 := free_blk x6 3
            have l6 := lt_of_some x6
            have b56 : Below w5.heap.size w5 w6 := ((Below.refl _ w5).alloc (Nat.le_refl _) _).trans ((grown_below hgrow6 (fun x h => by cases h) (Nat.le_refl _)).mono (by simp))
            have HO6 := Lib.hid (And.intro hown6 (And.intro b46 (And.intro hge6 (And.intro x6 b56))))
            clear b56 hown6 hgrow6 b46 x6 hge6
            refine wpAny_all (rs := [8]) (by kernel_rfl) (by simp) (fun i hi => ?_)
            obtain rfl : i = 8 := by simpa using hi
            clear hi
            refine wpOp_step rfl (fun K hK => ?_)
            go_simp
            go_at_call 73
            refine (clipA_calls _ _ _ hc6 hc7 _).mono ?_
            rintro e w7 ⟨rfl, rfl⟩
            refine hK _ _ ?_
            clear hK K
            refine wpAny_all (rs := [9]) (by kernel_rfl) (by simp) (fun i hi => ?_)
            obtain rfl : i = 9 := by simpa using hi
            clear hi
            refine wpOp_step rfl (fun K hK => ?_)
            go_simp
            refine hK _ _ ?_
            clear hK K
            refine wpAny_all (rs := [10]) (by kernel_rfl) (by simp) (fun i hi => ?_)
            obtain rfl : i = 10 := by simpa using hi
            clear hi
            refine wpOp_step rfl (fun K hK => ?_)
            go_simp
            refine hK _ _ ?_
            clear hK K
            refine wpAny_done (by kernel_rfl) ?_ _
            clear d5 l5 hc6 hc7 d6 f6
            obtain ⟨hown6, b46, hge6, x6, b56⟩ := HO6.out
            have t1 := (b46.block _ (lt_of_some T1.out)).trans T1.out
            have hne : w.heap.size + 1 ≠ w2.heap.size := by omega
            have y8 := set_blk x6 3 (.slice (some ⟨g6, 0, none⟩) (n + 1) (n + 1))
            have y1 := set_other t1 (show w.heap.size + 1 ≠ (⟨w2.heap.size, 3, none⟩ : Addr).block from hne) (.slice (some ⟨g6, 0, none⟩) (n + 1) (n + 1))
            have fS : FrT [30] w2.heap.size w6 (w6.setCell ⟨w2.heap.size, 3, none⟩ (.slice (some ⟨g6, 0, none⟩) (n + 1) (n + 1))) := (FrT.refl _ _ _).set (a := ⟨w2.heap.size, 3, none⟩) (Nat.le_refl _) x6 (by simp) _
            obtain ⟨WS, hWS⟩ : ∃ WS, WS = w6.setCell ⟨w2.heap.size, 3, none⟩ (.slice (some ⟨g6, 0, none⟩) (n + 1) (n + 1)) := ⟨_, rfl⟩
            rw [← hWS] at y8 y1 fS ⊢
            have e0 := cell_blk y8 0 rfl
            have e1 := cell_blk y8 1 rfl
            have e2 := cell_blk y8 2 rfl
            have e3 := cell_blk y8 3 rfl
            have e4 := cell_blk y8 4 rfl
            have e5 := cell_blk y8 5 rfl
            have q0 := cell_blk y1 0 rfl
            have q1 := cell_blk y1 1 rfl
            have q2 := cell_blk y1 2 rfl
            have q3 := cell_blk y1 3 rfl
            have q4 := cell_blk y1 4 rfl
            have q5 := cell_blk y1 5 rfl
            have g0 := fun j => free_blk y1 j
            have le1 := lt_of_some y1
            have le8 := lt_of_some y8
            simp at e0 e1 e2 e3 e4 e5 q0 q1 q2 q3 q4 q5
            have HY := Lib.hid (And.intro y1 (And.intro fS (And.intro b46 (And.intro b56 hown6))))
            clear t1 y8 y1 fS hWS b46 b56 hown6 x6 hge6
            go_wp2
            obtain ⟨y1, fS, b46, b56, hown6⟩ := HY.out
            obtain ⟨hE, hF⟩ := six_cells y1 (.int .i64 k2) (.string nm2) (.slice a2 m m) (.slice (some ⟨g6, 0, none⟩) (n + 1) (n + 1)) (.int .u32 sl2) (.int .u32 ge2)
            have hFF : FrT [30] 0 w6 _ := (fS.mono (fun _ h => h) (Nat.zero_le _)).trans (hF.mono (fun _ h => h) (Nat.zero_le _))
            have r0 := cell_blk hE 0 rfl
            have r1 := cell_blk hE 1 rfl
            have r2 := cell_blk hE 2 rfl
            have r3 := cell_blk hE 3 rfl
            have r4 := cell_blk hE 4 rfl
            have r5 := cell_blk hE 5 rfl
            have hL2 : (L2 ++ [(⟨name, a5, vl, us⟩ : LA)]).length = n + 1 := by rw [List.length_append, SM.out.2.1, ← HN.out]; rfl
            have hbel : Below w.heap.size w _ := B4.out.trans (((b46.mono (by omega)).trans ((fS.below (by have := b46.size; omega)).mono (by omega))).trans ((hF.below (by omega)).mono (by omega)))
            refine bodyPost_ret (v := .tuple #[.agg #[.int .i64 k2, .string nm2, .slice a2 m m, .slice (some ⟨g6, 0, none⟩) (n + 1) (n + 1), .int .u32 sl2, .int .u32 ge2], .int .i64 0]) (by simp [results, Try.results31, go_sem, r0, r1, r2, r3, r4, r5]) rfl ⟨⟨k2, nm2, a2, m, d2, some ⟨g6, 0, none⟩, n + 1, L2 ++ [⟨name, a5, vl, us⟩], sl2, ge2⟩, ?_, ?_, ?_, hbel⟩
            · simp only [hL2, ← SM.out.2.2]
            · have hc := SM.out.1
              unfold Nd.c at hc ⊢
              simp only [NC.mk.injEq] at hc ⊢
              obtain ⟨c1, c2, c3, c4, c5, c6⟩ := hc
              refine ⟨c1, c2, c3, ?_, c5, c6⟩
              have hnf : ¬ (L.map attrOf).findIdx (isNm2 name) < (L.map attrOf).length := by
                rw [findIdx_map, List.length_map]
                intro hh
                have h2 := List.findIdx_getElem (w := hh)
                exact List.find?_eq_none.1 HATF.out.2 _ (List.getElem_mem hh) h2
              unfold setD
              rw [if_neg hnf, List.map_append, c4]
              rfl
            · have hfr6 := ((FR4.out.below b46).frt hFF).mono (show w.heap.size ≤ w1.heap.size by omega)
              refine ⟨hfr6.data, SM.out.2.2, ⟨⟨c6, ?_⟩, ?_, ?_⟩, hL2.symm, hfr6.nam, by simp only [hL2]; omega⟩
              · simp only [hL2]
                have hce : cellsA [(⟨name, a5, vl, us⟩ : LA)] = [.string name, .slice a5 vl vl] := by
                  show [Value.string name, Value.slice a5 us.length vl] = _
                  rw [← HL.out]
                rw [cellsA_append, hce]
                have h1 := hFF.row hown6 (by decide)
                refine h1.mono (base' := w.heap.size) ?_
                have h5 : w4.heap.size ≤ w5.heap.size := HC5.out.2.size
                rw [World.size_alloc]
                omega
              · intro x hx
                rcases List.mem_append.1 hx with hx | hx
                · exact hfr6.attrs.val x hx
                · obtain rfl := by simpa using hx
                  exact ⟨((HC5.out.1.mono (by omega)).below b56).frt hFF, HL.out⟩
              · intro x hx
                rcases List.mem_append.1 hx with hx | hx
                · exact hfr6.attrs.nam x hx
                · obtain rfl := by simpa using hx
                  exact hns
        -- R9 END
      | some x =>
        obtain ⟨i, hi, hx, hia, hxn, hno⟩ := atD_some hf
        rw [hia]
        have hfr := FR4.out
        have HOWN := Lib.hid (show Calls Try.prog 64 #[.slice va vl vc] w4.drew fun e w' => ∃ a', e = .returned (.slice a' vl vl) ∧ Clip16 w4.heap.size w' a' us ∧ Below w4.heap.size w4.drew w' by
          have h := own_calls w4.drew vc (HV4.out.below ((Below.refl _ w4).drew)) (by rw [← HL.out]; exact hvl)
          rw [← HL.out] at h
          exact h)
        have HDB := Lib.hid ((Below.refl w4.heap.size w4).drew)
        obtain ⟨cap2, hrow2⟩ := hfr.attrs.row
        simp only [] at hrow2
        rw [SM.out.2.1, ← HN.out] at hrow2
        rw [← HN.out] at hi
        obtain ⟨gA, cA, hv, hgA, hlA⟩ := hrow2.form (by omega)
        obtain ⟨rfl, rfl⟩ : aa2 = some ⟨gA, 0, none⟩ ∧ cap2 = cA := by simpa using hv
        obtain ⟨x2, hx2⟩ : ∃ x2, L2[i]? = some x2 := ⟨_, List.getElem?_eq_getElem (by rw [SM.out.2.1, ← HN.out]; exact hi)⟩
        have HIX : Hid (i < n ∧ L.findIdx (isNm name) = i ∧ L2[i]? = some x2) := Lib.hid ⟨hi, by
          unfold atD at hia
          split at hia
          · omega
          · omega, hx2⟩
        have HROW := Lib.hid hrow2
        have p0 : (0 : Int) ≤ (i : Int) := by omega
        have p1 : (i : Int) < (n : Int) := by omega
        have lA : gA < w4.heap.size := hlA
        clear hfr hrow2 hia hf hv hx2 hno hx hxn hlA
        go_wp2_with fail
        -- R8
        refine wp_region_any (by kernel_rfl) ?_
        change wpAny _ _ _ _ _ _ _ (World.drew _)
        refine wpAny_take (i := 0) (v := ?_) rfl (by kernel_rfl) (by kernel_rfl) (by kernel_rfl) (fun _ _ _ h => h) (Or.inl ⟨by rfl, ?_⟩) ?_
        rotate_left
        · intro w; go_simp; try with_reducible rfl
        refine wpAny_take (i := 2) (v := ?_) rfl (by kernel_rfl) (by kernel_rfl) (by kernel_rfl) (fun _ _ _ h => h) (Or.inl ⟨by rfl, ?_⟩) ?_
        rotate_left
        · intro w; go_simp; try with_reducible rfl
        refine wpAny_take (i := 3) (v := ?_) rfl (by kernel_rfl) (by kernel_rfl) (by kernel_rfl) (fun _ _ _ h => h) (Or.inl ⟨by rfl, ?_⟩) ?_
        rotate_left
        · intro w; go_simp; try with_reducible rfl
        refine wpAny_all (rs := [1, 4]) (by kernel_rfl) (by simp) (fun i hi => ?_)
        have hi' : i = 1 ∨ i = 4 := by simpa using hi
        clear hi
        rcases hi' with rfl | rfl
        · refine wpOp_step rfl (fun K hK => ?_)
          go_simp
          refine hK _ _ ?_
          clear hK K
          refine wpAny_all (rs := [4]) (by kernel_rfl) (by simp) (fun i hi => ?_)
          obtain rfl : i = 4 := by simpa using hi
          clear hi
          refine wpOp_step rfl (fun K hK => ?_)
          go_simp
          go_at_call 64
          refine HOWN.out.mono ?_
          rintro e w5 ⟨a5, rfl, hc5, b5⟩
          refine hK _ _ ?_
          clear hK K
          have d5 := (b5.cell (p := ⟨w2.heap.size, 3, none⟩) l8).trans d3
          have l5 := Nat.lt_of_lt_of_le l8 b5.size
          have b45 := Lib.hid (HDB.out.trans b5)
          have hr5 := row_below HROW.out b45.out
          obtain ⟨u5, hu5⟩ : ∃ u, (cellsA L2)[i * 2 + 1]? = some u := ⟨_, List.getElem?_eq_getElem (by rw [cellsA_len, SM.out.2.1, ← HN.out]; omega)⟩
          have z5 := (hr5.cellAt (i * 2 + 1) (by omega)).trans hu5
          have v5 := hr5.frozenAt (i * 2 + 1)
          have HR5 := Lib.hid hr5
          have HC5 := Lib.hid (And.intro hc5 b5)
          clear hc5 b5 hr5 hu5
          refine wpAny_all (rs := [5]) (by kernel_rfl) (by simp) (fun i hi => ?_)
          obtain rfl : i = 5 := by simpa using hi
          clear hi
          refine wpOp_step rfl (fun K hK => ?_)
          go_simp
          refine hK _ _ ?_
          clear hK K
          refine wpAny_all (rs := [6]) (by kernel_rfl) (by simp) (fun i hi => ?_)
          obtain rfl : i = 6 := by simpa using hi
          clear hi
          refine wpOp_step rfl (fun K hK => ?_)
          go_simp
          refine hK _ _ ?_
          clear hK K
          refine wpAny_all (rs := [7]) (by kernel_rfl) (by simp) (fun i hi => ?_)
          obtain rfl : i = 7 := by simpa using hi
          clear hi
          refine wpOp_step rfl (fun K hK => ?_)
          go_simp
          refine hK _ _ ?_
          clear hK K
          refine wpAny_done (by kernel_rfl) ?_ _
          clear d5 l5 z5 v5
          have t1 := (b45.out.block _ (lt_of_some T1.out)).trans T1.out
          have x5 := (b45.out.block _ l8).trans X8.out
          obtain ⟨cur5, hg5, hgb⟩ := rwBlk HR5.out
          have hne1 : w.heap.size + 1 ≠ gA := by intro e; rw [e, hg5] at t1; cases t1
          have hne8 : w2.heap.size ≠ gA := by intro e; rw [e, hg5] at x5; cases x5
          obtain ⟨hr6, _⟩ := World.ownsRow.stored HR5.out (i * 2 + 1) (.slice a5 vl vl)
          have y8 := set_other x5 (show w2.heap.size ≠ (⟨gA, i * 2 + 1, none⟩ : Addr).block from hne8) (.slice a5 vl vl)
          have y1 := set_other t1 (show w.heap.size + 1 ≠ (⟨gA, i * 2 + 1, none⟩ : Addr).block from hne1) (.slice a5 vl vl)
          have fS : FrT [72] w.heap.size w5 (w5.setCell ⟨gA, i * 2 + 1, none⟩ (.slice a5 vl vl)) := (FrT.refl _ _ _).set (a := ⟨gA, i * 2 + 1, none⟩) (by have := hgb; show w.heap.size ≤ gA; omega) hg5 (by simp) _
          obtain ⟨WS, hWS⟩ : ∃ WS, WS = w5.setCell ⟨gA, i * 2 + 1, none⟩ (.slice a5 vl vl) := ⟨_, rfl⟩
          rw [← hWS] at y8 y1 fS hr6 ⊢
          have e0 := cell_blk y8 0 rfl
          have e1 := cell_blk y8 1 rfl
          have e2 := cell_blk y8 2 rfl
          have e3 := cell_blk y8 3 rfl
          have e4 := cell_blk y8 4 rfl
          have e5 := cell_blk y8 5 rfl
          have q0 := cell_blk y1 0 rfl
          have q1 := cell_blk y1 1 rfl
          have q2 := cell_blk y1 2 rfl
          have q3 := cell_blk y1 3 rfl
          have q4 := cell_blk y1 4 rfl
          have q5 := cell_blk y1 5 rfl
          have g0 := fun j => free_blk y1 j
          have le1 := lt_of_some y1
          have le8 := lt_of_some y8
          simp at e0 e1 e2 e3 e4 e5 q0 q1 q2 q3 q4 q5
          have HY := Lib.hid (And.intro y1 (And.intro fS hr6))
          clear t1 y8 y1 fS hWS hr6 x5 hg5 hgb hne1 hne8
          go_wp2
          obtain ⟨y1, fS, hr6⟩ := HY.out
          obtain ⟨hE, hF⟩ := six_cells y1 (.int .i64 k2) (.string nm2) (.slice a2 m m) (.slice (some ⟨gA, 0, none⟩) n n) (.int .u32 sl2) (.int .u32 ge2)
          have r0 := cell_blk hE 0 rfl
          have r1 := cell_blk hE 1 rfl
          have r2 := cell_blk hE 2 rfl
          have r3 := cell_blk hE 3 rfl
          have r4 := cell_blk hE 4 rfl
          have r5 := cell_blk hE 5 rfl
          have hL2 : (L2.set i ⟨x2.name, a5, vl, us⟩).length = n := by rw [List.length_set, SM.out.2.1, ← HN.out]
          have hbel : Below w.heap.size w _ := B4.out.trans (((b45.out.mono (by omega)).trans (fS.below (by have := b45.out.size; omega))).trans ((hF.below (by omega)).mono (by omega)))
          have hc16 : ∀ {B : Nat} {a : Option Addr} {vs : List Nat}, Clip16 B w5 a vs → Clip16 B _ a vs := fun h => Clip16.frt ⟨by obtain ⟨cap, hr⟩ := h.row; exact ⟨cap, fS.row hr (by decide)⟩, h.bnd, h.len⟩ hF
          refine bodyPost_ret (v := .tuple #[.agg #[.int .i64 k2, .string nm2, .slice a2 m m, .slice (some ⟨gA, 0, none⟩) n n, .int .u32 sl2, .int .u32 ge2], .int .i64 0]) (by simp [results, Try.results31, go_sem, r0, r1, r2, r3, r4, r5]) rfl ⟨⟨k2, nm2, a2, m, d2, some ⟨gA, 0, none⟩, n, L2.set i ⟨x2.name, a5, vl, us⟩, sl2, ge2⟩, ?_, ?_, ?_, hbel⟩
          · simp only [hL2, ← SM.out.2.2]
          · have hc := SM.out.1
            unfold Nd.c at hc ⊢
            simp only [NC.mk.injEq] at hc ⊢
            obtain ⟨c1, c2, c3, c4, c5, c6⟩ := hc
            refine ⟨c1, c2, c3, ?_, c5, c6⟩
            unfold setD
            rw [findIdx_map, List.length_map, HIX.out.2.1, if_pos (by rw [← HN.out]; exact HIX.out.1), ← c4]
            exact set_modify HIX.out.2.2 rfl
          · have hfr5 := (FR4.out.below b45.out).mono (show w.heap.size ≤ w1.heap.size by omega)
            refine ⟨hc16 hfr5.data, SM.out.2.2, ⟨⟨cap2, ?_⟩, ?_, ?_⟩, hL2.symm, hfr5.nam, by simp only [hL2]; omega⟩
            · simp only [hL2]
              have hce : cellsA (L2.set i ⟨x2.name, a5, vl, us⟩) = (cellsA L2).set (i * 2 + 1) (.slice a5 vl vl) := by
                rw [HL.out]; exact cellsA_set HIX.out.2.2
              rw [hce]
              exact (hF.row hr6 (by decide)).mono (by omega)
            · intro x hx
              rcases List.mem_or_eq_of_mem_set hx with hx | rfl
              · exact ⟨hc16 (hfr5.attrs.val x hx).1, (hfr5.attrs.val x hx).2⟩
              · exact ⟨hc16 (HC5.out.1.mono (by omega)), HL.out⟩
            · intro x hx
              rcases List.mem_or_eq_of_mem_set hx with hx | rfl
              · exact hfr5.attrs.nam x hx
              · exact hfr5.attrs.nam x2 (List.mem_of_getElem? HIX.out.2.2)
        · refine wpOp_step rfl (fun K hK => ?_)
          go_simp
          go_at_call 64
          refine HOWN.out.mono ?_
          rintro e w5 ⟨a5, rfl, hc5, b5⟩
          refine hK _ _ ?_
          clear hK K
          have d5 := (b5.cell (p := ⟨w2.heap.size, 3, none⟩) l8).trans d3
          have l5 := Nat.lt_of_lt_of_le l8 b5.size
          have b45 := Lib.hid (HDB.out.trans b5)
          have hr5 := row_below HROW.out b45.out
          obtain ⟨u5, hu5⟩ : ∃ u, (cellsA L2)[i * 2 + 1]? = some u := ⟨_, List.getElem?_eq_getElem (by rw [cellsA_len, SM.out.2.1, ← HN.out]; omega)⟩
          have z5 := (hr5.cellAt (i * 2 + 1) (by omega)).trans hu5
          have v5 := hr5.frozenAt (i * 2 + 1)
          have HR5 := Lib.hid hr5
          have HC5 := Lib.hid (And.intro hc5 b5)
          clear hc5 b5 hr5 hu5
          refine wpAny_all (rs := [1]) (by kernel_rfl) (by simp) (fun i hi => ?_)
          obtain rfl : i = 1 := by simpa using hi
          clear hi
          refine wpOp_step rfl (fun K hK => ?_)
          go_simp
          refine hK _ _ ?_
          clear hK K
          refine wpAny_all (rs := [5]) (by kernel_rfl) (by simp) (fun i hi => ?_)
          obtain rfl : i = 5 := by simpa using hi
          clear hi
          refine wpOp_step rfl (fun K hK => ?_)
          go_simp
          refine hK _ _ ?_
          clear hK K
          refine wpAny_all (rs := [6]) (by kernel_rfl) (by simp) (fun i hi => ?_)
          obtain rfl : i = 6 := by simpa using hi
          clear hi
          refine wpOp_step rfl (fun K hK => ?_)
          go_simp
          refine hK _ _ ?_
          clear hK K
          refine wpAny_all (rs := [7]) (by kernel_rfl) (by simp) (fun i hi => ?_)
          obtain rfl : i = 7 := by simpa using hi
          clear hi
          refine wpOp_step rfl (fun K hK => ?_)
          go_simp
          refine hK _ _ ?_
          clear hK K
          refine wpAny_done (by kernel_rfl) ?_ _
          clear d5 l5 z5 v5
          have t1 := (b45.out.block _ (lt_of_some T1.out)).trans T1.out
          have x5 := (b45.out.block _ l8).trans X8.out
          obtain ⟨cur5, hg5, hgb⟩ := rwBlk HR5.out
          have hne1 : w.heap.size + 1 ≠ gA := by intro e; rw [e, hg5] at t1; cases t1
          have hne8 : w2.heap.size ≠ gA := by intro e; rw [e, hg5] at x5; cases x5
          obtain ⟨hr6, _⟩ := World.ownsRow.stored HR5.out (i * 2 + 1) (.slice a5 vl vl)
          have y8 := set_other x5 (show w2.heap.size ≠ (⟨gA, i * 2 + 1, none⟩ : Addr).block from hne8) (.slice a5 vl vl)
          have y1 := set_other t1 (show w.heap.size + 1 ≠ (⟨gA, i * 2 + 1, none⟩ : Addr).block from hne1) (.slice a5 vl vl)
          have fS : FrT [72] w.heap.size w5 (w5.setCell ⟨gA, i * 2 + 1, none⟩ (.slice a5 vl vl)) := (FrT.refl _ _ _).set (a := ⟨gA, i * 2 + 1, none⟩) (by have := hgb; show w.heap.size ≤ gA; omega) hg5 (by simp) _
          obtain ⟨WS, hWS⟩ : ∃ WS, WS = w5.setCell ⟨gA, i * 2 + 1, none⟩ (.slice a5 vl vl) := ⟨_, rfl⟩
          rw [← hWS] at y8 y1 fS hr6 ⊢
          have e0 := cell_blk y8 0 rfl
          have e1 := cell_blk y8 1 rfl
          have e2 := cell_blk y8 2 rfl
          have e3 := cell_blk y8 3 rfl
          have e4 := cell_blk y8 4 rfl
          have e5 := cell_blk y8 5 rfl
          have q0 := cell_blk y1 0 rfl
          have q1 := cell_blk y1 1 rfl
          have q2 := cell_blk y1 2 rfl
          have q3 := cell_blk y1 3 rfl
          have q4 := cell_blk y1 4 rfl
          have q5 := cell_blk y1 5 rfl
          have g0 := fun j => free_blk y1 j
          have le1 := lt_of_some y1
          have le8 := lt_of_some y8
          simp at e0 e1 e2 e3 e4 e5 q0 q1 q2 q3 q4 q5
          have HY := Lib.hid (And.intro y1 (And.intro fS hr6))
          clear t1 y8 y1 fS hWS hr6 x5 hg5 hgb hne1 hne8
          go_wp2
          obtain ⟨y1, fS, hr6⟩ := HY.out
          obtain ⟨hE, hF⟩ := six_cells y1 (.int .i64 k2) (.string nm2) (.slice a2 m m) (.slice (some ⟨gA, 0, none⟩) n n) (.int .u32 sl2) (.int .u32 ge2)
          have r0 := cell_blk hE 0 rfl
          have r1 := cell_blk hE 1 rfl
          have r2 := cell_blk hE 2 rfl
          have r3 := cell_blk hE 3 rfl
          have r4 := cell_blk hE 4 rfl
          have r5 := cell_blk hE 5 rfl
          have hL2 : (L2.set i ⟨x2.name, a5, vl, us⟩).length = n := by rw [List.length_set, SM.out.2.1, ← HN.out]
          have hbel : Below w.heap.size w _ := B4.out.trans (((b45.out.mono (by omega)).trans (fS.below (by have := b45.out.size; omega))).trans ((hF.below (by omega)).mono (by omega)))
          have hc16 : ∀ {B : Nat} {a : Option Addr} {vs : List Nat}, Clip16 B w5 a vs → Clip16 B _ a vs := fun h => Clip16.frt ⟨by obtain ⟨cap, hr⟩ := h.row; exact ⟨cap, fS.row hr (by decide)⟩, h.bnd, h.len⟩ hF
          refine bodyPost_ret (v := .tuple #[.agg #[.int .i64 k2, .string nm2, .slice a2 m m, .slice (some ⟨gA, 0, none⟩) n n, .int .u32 sl2, .int .u32 ge2], .int .i64 0]) (by simp [results, Try.results31, go_sem, r0, r1, r2, r3, r4, r5]) rfl ⟨⟨k2, nm2, a2, m, d2, some ⟨gA, 0, none⟩, n, L2.set i ⟨x2.name, a5, vl, us⟩, sl2, ge2⟩, ?_, ?_, ?_, hbel⟩
          · simp only [hL2, ← SM.out.2.2]
          · have hc := SM.out.1
            unfold Nd.c at hc ⊢
            simp only [NC.mk.injEq] at hc ⊢
            obtain ⟨c1, c2, c3, c4, c5, c6⟩ := hc
            refine ⟨c1, c2, c3, ?_, c5, c6⟩
            unfold setD
            rw [findIdx_map, List.length_map, HIX.out.2.1, if_pos (by rw [← HN.out]; exact HIX.out.1), ← c4]
            exact set_modify HIX.out.2.2 rfl
          · have hfr5 := (FR4.out.below b45.out).mono (show w.heap.size ≤ w1.heap.size by omega)
            refine ⟨hc16 hfr5.data, SM.out.2.2, ⟨⟨cap2, ?_⟩, ?_, ?_⟩, hL2.symm, hfr5.nam, by simp only [hL2]; omega⟩
            · simp only [hL2]
              have hce : cellsA (L2.set i ⟨x2.name, a5, vl, us⟩) = (cellsA L2).set (i * 2 + 1) (.slice a5 vl vl) := by
                rw [HL.out]; exact cellsA_set HIX.out.2.2
              rw [hce]
              exact (hF.row hr6 (by decide)).mono (by omega)
            · intro x hx
              rcases List.mem_or_eq_of_mem_set hx with hx | rfl
              · exact ⟨hc16 (hfr5.attrs.val x hx).1, (hfr5.attrs.val x hx).2⟩
              · exact ⟨hc16 (HC5.out.1.mono (by omega)), HL.out⟩
            · intro x hx
              rcases List.mem_or_eq_of_mem_set hx with hx | rfl
              · exact hfr5.attrs.nam x hx
              · exact hfr5.attrs.nam x2 (List.mem_of_getElem? HIX.out.2.2)
        -- R8 END
    | false =>
      have hres : setAttrD (Nd.c ⟨1, nm, da, dc, data, aa, ac, L, sl, ge⟩) name us = (NC.zero, 62) := by unfold setAttrD; rw [if_neg (fun h => h rfl), if_pos hnd]
      rw [hres]
      have HND := Lib.hid hnd
      have HNM := Lib.hid (named_calls ((w.alloc (.cells #[.int .i64 1, .string nm, .slice da data.length dc, .slice aa n ac, .int .u32 sl, .int .u32 ge] 30)).alloc (.cells #[.int .i64 0, .string ⟨#[]⟩, .slice none 0 0, .slice none 0 0, .int .u32 0, .int .u32 0] 30)) name hns)
      clear hres hnd
      go_enter Try.func31, Try.ntmps31
      go_wp2_with fail
      refine HNM.out.mono ?_
      rw [HND.out]
      rintro e w1 ⟨rfl, b1⟩
      have x1 := (b1.block _ (lt_of_some X1.out)).trans X1.out
      have B1 := Lib.hid (HB1.out.trans (b1.mono (by simp; omega)))
      have z0 := cell_blk x1 0 rfl
      have z1 := cell_blk x1 1 rfl
      have z2 := cell_blk x1 2 rfl
      have z3 := cell_blk x1 3 rfl
      have z4 := cell_blk x1 4 rfl
      have z5 := cell_blk x1 5 rfl
      have g0 := fun j => free_blk x1 j
      have l1 := lt_of_some x1
      have X2 := Lib.hid x1
      clear b1 x1
      go_wp2
      obtain ⟨hE, hF⟩ := six_cells X2.out (.int .i64 0) (.string ⟨#[]⟩) (.slice none 0 0) (.slice none 0 0) (.int .u32 0) (.int .u32 0)
      have y0 := cell_blk hE 0 rfl
      have y1 := cell_blk hE 1 rfl
      have y2 := cell_blk hE 2 rfl
      have y3 := cell_blk hE 3 rfl
      have y4 := cell_blk hE 4 rfl
      have y5 := cell_blk hE 5 rfl
      exact bodyPost_ret (v := .tuple #[.agg #[.int .i64 0, .string ⟨#[]⟩, .slice none 0 0, .slice none 0 0, .int .u32 0, .int .u32 0], .int .i64 62]) (by simp [results, Try.results31, go_sem, y0, y1, y2, y3, y4, y5]) rfl ⟨Nd.zero, rfl, rfl, Fresh.zero _ _, B1.out.trans ((hF.below (by omega)).mono (by omega))⟩
  · have hk2 : (k == 1) = false := by simpa using hk
    have hres : setAttrD (Nd.c ⟨k, nm, da, dc, data, aa, ac, L, sl, ge⟩) name us = (NC.zero, 63) := by unfold setAttrD; exact if_pos hk
    rw [hres]
    obtain ⟨z0, z1, z2, z3, z4, z5⟩ := HZ.out
    clear hres
    go_enter Try.func31, Try.ntmps31
    go_wp2
    exact bodyPost_ret (v := .tuple #[.agg #[.int .i64 0, .string ⟨#[]⟩, .slice none 0 0, .slice none 0 0, .int .u32 0, .int .u32 0], .int .i64 63]) (by simp [results, Try.results31, go_sem, z0, z1, z2, z3, z4, z5]) rfl ⟨Nd.zero, rfl, rfl, Fresh.zero _ _, HB1.out⟩
end Go.Proofs.Ytelhnaphkbpakaa

