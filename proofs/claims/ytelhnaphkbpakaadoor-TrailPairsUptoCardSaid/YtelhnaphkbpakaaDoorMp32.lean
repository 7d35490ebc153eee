/- Part 32 of the proof of TpP: lemmas. -/
import Derived.Test.YtelhnaphkbpakaaDoorMp31
namespace Go.Proofs.YtelhnaphkbpakaaDoor
open Go.RowKit
set_option linter.unusedVariables false
set_option maxRecDepth 100000
def outL (l : List Nat) (i : Nat) : List Nat := l.filter (fun c => c != i)
theorem outL_le (l : List Nat) (i : Nat) : (outL l i).length ≤ l.length := List.length_filter_le _ _
theorem cutF_set {F : For} {i u : Nat} {xi xu : FN} (hi : F[i]? = some xi) (hu : F[u]? = some xu) (hne : i ≠ u) :
    (F.set u { xu with down := outL xu.down i }).set i { xi with up := none } = cutF F i u := by
  apply List.ext_getElem?
  intro k
  have hil := (List.getElem?_eq_some_iff.1 hi).1
  have hul := (List.getElem?_eq_some_iff.1 hu).1
  rw [cutF_at hne, List.getElem?_set]
  by_cases hk : k = i
  · subst hk
    simp only [hi, Option.map_some, List.length_set, hil, if_true]
  · rw [if_neg (fun e => hk e.symm), if_neg hk, List.getElem?_set]
    by_cases hk2 : k = u
    · subst hk2; simp only [hu, Option.map_some, hul, if_true]; rfl
    · rw [if_neg (fun e => hk2 e.symm), if_neg hk2]
section
variable {B : Nat} {Q : Nat → Prop} {w w' : World} {fb : Nat} {F : For} {R : List RN} {rv : Value}
theorem FoAt.cutS (h : FoAt B Q w fb F R rv) {w3 : World} (hl : Below w.heap.size w w3) {i u : Nat} {xi xu : FN} (hi : F[i]? = some xi) (hu : F[u]? = some xu) (hne : i ≠ u) {lv : Value} (hB : B ≤ w.heap.size)
    (hrow : w3.ownsRow w.heap.size 3 1 lv (outL xu.down i).length (icells (outL xu.down i))) {g cap : Nat} (hrv : rv = .slice (some ⟨g, 0, none⟩) F.length cap) :
    let W := (w3.setCell ⟨g, u * 11 + 9, none⟩ lv).setCell ⟨g, i * 11 + 8, none⟩ (.int .i64 (-1))
    ∃ R', FoAt B (fun k => Q k ∨ w.heap.size ≤ k ∧ k < W.heap.size) W fb (cutF F i u) R' rv ∧ R'.map (fun r => r.2.1) = R.map (fun r => r.2.1) ∧ FrG [69] Q w W := by
  intro W
  subst hrv
  obtain ⟨Pu, du, hRu⟩ := h.at hu
  obtain ⟨Pi, di, hRi⟩ := h.at hi
  have hs3 := hl.size
  have h3 : FoAt B (fun k => Q k ∨ w.heap.size ≤ k ∧ k < w3.heap.size) w3 fb F R (.slice (some ⟨g, 0, none⟩) F.length cap) :=
    (h.frg (FrG.of_below (T := []) hl) (by simp) (by simp) (by simp))
  obtain ⟨h4, f4⟩ := h3.stored hRu (r' := ({ xu with down := outL xu.down i }, Pu, lv)) (j := 9) (by omega) rfl rfl ⟨hrow.mono hB, fun k hk => .inr (hrow.lt k hk)⟩
  have hRi' : (R.set u ({ xu with down := outL xu.down i }, Pu, lv))[i]? = some (xi, Pi, di) := by
    rw [List.getElem?_set, if_neg (fun e => hne e.symm)]; exact hRi
  have hdi := h4.down _ (List.mem_of_getElem? hRi')
  obtain ⟨h5, f5⟩ := h4.stored hRi' (r' := ({ xi with up := none }, Pi, di)) (j := 8) (v := .int .i64 (-1)) (by omega) rfl rfl hdi
  have hf : FrG [69] Q w W := ((FrG.of_below (T := [69]) (Q := Q) hl).trans f4 (fun k hk => hk.imp id (fun e => e.1))).trans f5 (fun k hk => hk.imp id (fun e => e.1))
  have hsz : W.heap.size = w3.heap.size := by show ((w3.setCell _ _).setCell _ _).heap.size = _; simp
  refine ⟨(R.set u ({ xu with down := outL xu.down i }, Pu, lv)).set i ({ xi with up := none }, Pi, di), ?_, ?_, hf⟩
  · rw [hsz, ← cutF_set hi hu hne]
    exact h5
  · rw [List.map_set, List.map_set]
    apply List.ext_getElem?
    intro k
    rw [List.getElem?_set, List.getElem?_set]
    simp only [List.length_set, List.length_map]
    split
    · rename_i e; subst e
      have := (List.getElem?_eq_some_iff.1 hRi).1
      simp only [this, if_true, List.getElem?_map, hRi, Option.map_some]
    · split
      · rename_i e; subst e
        have := (List.getElem?_eq_some_iff.1 hRu).1
        simp only [this, if_true, List.getElem?_map, hRu, Option.map_some]
      · rfl
set_option maxHeartbeats 4000000 in
theorem rcut_calls (h : FoAt B Q w fb F R rv) (hB : B ≤ w.heap.size) {i u : Nat} {xi xu : FN} (hi : F[i]? = some xi) (hu : F[u]? = some xu) (hne : i ≠ u) (hiu : xi.up = some u) (hd : xu.down.length ≤ 1099511627776) :
    Calls Tryd.prog 72 #[.pointer (some ⟨fb, 0, none⟩), .int .i64 (i : Int)] w fun e w' => e = .returned (.tuple #[]) ∧
      (∃ R', FoAt B (fun k => Q k ∨ w.heap.size ≤ k ∧ k < w'.heap.size) w' fb (cutF F i u) R' rv ∧ R'.map (fun r => r.2.1) = R.map (fun r => r.2.1)) ∧ FrG [69] Q w w' := by
  have H := Lib.hid h
  have HI := Lib.hid (And.intro hi (And.intro hu hne))
  have hbig := h.big
  have hil := (List.getElem?_eq_some_iff.1 hi).1
  have hul := (List.getElem?_eq_some_iff.1 hu).1
  obtain ⟨g, cap, Pu, du, e, hRu, z0, z1, z8, z9, z10⟩ := h.get hu
  obtain ⟨g', cap', Pi, di, e', hRi, y0, y1, y8, y9, y10⟩ := h.get hi
  rw [e] at e'
  cases e'
  have HE := Lib.hid e
  have l0 := lt_of_some h.blk
  obtain ⟨cur, hcur, _⟩ := rwBlk (by have := h.row; rw [h.len, e] at this; exact this)
  have l1 := lt_of_some hcur
  have hb00 := h.b0
  rw [e] at hb00
  have e8 : upI xi.up = (u : Int) := by rw [hiu]; rfl
  rw [e8] at y8
  have HLB : Hid (∀ W, Below w.heap.size w W → (W.cell? ⟨fb, 0, none⟩ = some (.slice (some ⟨g, 0, none⟩) F.length cap) ∧ W.cell? ⟨g, u * 11 + 9, none⟩ = some du ∧ W.cell? ⟨g, i * 11 + 8, none⟩ = some (.int .i64 (u : Int))) ∧ (∀ o, W.frozen? ⟨g, o, none⟩ = false)) := Lib.hid (fun W b => ⟨⟨(b.cell (p := ⟨fb, 0, none⟩) l0).trans hb00, (b.cell (p := ⟨g, _, none⟩) l1).trans z9, (b.cell (p := ⟨g, _, none⟩) l1).trans y8⟩, fun o => (b.frozen (p := ⟨g, o, none⟩) l1).trans (free_blk hcur o)⟩)
  have HK : Hid (∀ W, Below w.heap.size w W → ∀ (k c : Nat), xu.down[k]? = some c → ∃ dg dcap, du = .slice (some ⟨dg, 0, none⟩) xu.down.length dcap ∧ W.cell? ⟨dg, k, none⟩ = some (.int .i64 (c : Int))) := Lib.hid (fun W b k c hc => (H.out.below b).kid (List.mem_of_getElem? hRu) hc)
  obtain ⟨da0, dcap0, hdu⟩ := h.dshape (List.mem_of_getElem? hRu)
  have hdu : du = .slice da0 xu.down.length dcap0 := hdu
  obtain ⟨i0, hi0, hz0, hz1, hz2⟩ := info_parts infoInt
  obtain ⟨n, hnn⟩ : ∃ n, n = xu.down.length := ⟨_, rfl⟩
  have HNN := Lib.hid hnn
  rw [← hnn] at hdu hd
  have HDU := Lib.hid hdu
  have y8' := y8
  clear h hi hu hRu hRi z0 z1 z8 z9 z10 y0 y1 y9 y10 e hcur hnn e8 hdu y8
  have un : ¬ ((u : Int) < 0) := by omega
  have ud : decide ((u : Int) < 0) = false := by simp
  go_enter Tryd.func72, Tryd.ntmps72
  go_wp2_with fail
  clear y8' hb00
  go_loopg [5, 6] n (fun m v5 v6 wr => ∃ (k : Nat), v6 = .int .i64 (k : Int) ∧ Hid (k + m = n ∧ Below w.heap.size w wr ∧ wr.ownsRow w.heap.size 3 1 v5 (outL (xu.down.take k) i).length (icells (outL (xu.down.take k) i))))
  case atStart => exact ⟨0, rfl, Lib.hid ⟨by omega, Below.refl _ _, by simpa [outL, icells] using World.ownsRow_nil _ _ _ _⟩⟩
  case round =>
    obtain ⟨k, rfl, hw⟩ := hrel
    have b0 := (HLB.out wr hw.out.2.1).1.1
    have z9 := (HLB.out wr hw.out.2.1).1.2.1
    have y8 := (HLB.out wr hw.out.2.1).1.2.2
    have fz := (HLB.out wr hw.out.2.1).2
    have hsum := hw.out.1
    have hs1 := hw.out.2.1.size
    by_cases hk : k < n
    · obtain ⟨c, hc⟩ : ∃ c, xu.down[k]? = some c := ⟨_, List.getElem?_eq_getElem (by have := HNN.out; omega)⟩
      obtain ⟨dg, dcap, e, zc⟩ := HK.out wr hw.out.2.1 k c hc
      rw [e, ← HNN.out] at z9
      have ql : decide ((k : Int) < (n : Int)) = true := by simp; omega
      have wk : IntKind.i64.wrap ((k : Int) + 1) = (k : Int) + 1 := IntWalk.i64_in _ (by omega)
      have hlen := outL_le (xu.down.take k) i
      rw [List.length_take] at hlen
      have hm1 : (outL (xu.down.take k) i).length + 1 ≤ maxLen := by unfold maxLen; omega
      have hm2 : ((outL (xu.down.take k) i).length + 1) * 8 ≤ 140737488355328 := by omega
      have hst : outL (xu.down.take (k + 1)) i = outL (xu.down.take k) i ++ (if c = i then [] else [c]) := by
        unfold outL
        rw [List.take_add_one, hc, List.filter_append]
        by_cases hci : c = i <;> simp [hci]
      have HST := Lib.hid hst
      have hs1a : ∀ o, w.heap.size ≤ (wr.alloc o).heap.size := fun o => Nat.le_trans hs1 ((Below.refl wr.heap.size wr).alloc (Nat.le_refl _) o).size
      clear e hst hc
      by_cases hci : c = i
      · have q1 : ((c : Int) == (i : Int)) = true := by simp [hci]
        have HN : Hid (outL (xu.down.take (k + 1)) i = outL (xu.down.take k) i) := Lib.hid (by rw [HST.out, if_pos hci]; simp)
        subst hci
        go_wp2_with fail
        go_roundg (gk - 1)
        case measure => omega
        case rel => exact ⟨k + 1, by go_num, Lib.hid ⟨by omega, hw.out.2.1, by rw [HN.out]; exact hw.out.2.2⟩⟩
      · have q2 : ¬ ((c : Int) = (i : Int)) := by omega
        have q1 : ((c : Int) == (i : Int)) = false := by simp; omega
        have HN : Hid ((outL (xu.down.take (k + 1)) i).length = (outL (xu.down.take k) i).length + 1 ∧ icells (outL (xu.down.take (k + 1)) i) = icells (outL (xu.down.take k) i) ++ [.int .i64 (c : Int)]) := Lib.hid (by rw [HST.out, if_neg hci]; exact ⟨by simp, by rw [icells_app]; rfl⟩)
        go_wp2_with (at_builtin; (refine wpList_append_lies _ rfl (.tmp 43) (.tmp 55) 67 rfl w.heap.size 3 i0 _ 1 8 Tryd.underlying67 hi0 hz0 hz1 hz2 rfl Nat.one_pos _ _ _ rfl (hw.out.2.2.alloc _) ⟨wr.heap.size, 0, none⟩ 1 1 [.int .i64 (c : Int)] rfl rfl (World.news_of_block (cs := #[.int .i64 (c : Int)]) (t := 3) (fr := (0, 0)) (Go.heap_alloc_new wr _)) (icells_one [c]) Nat.one_pos hm1 hm2 (hs1a _) (wr.heap.size + 1) (by simp) ?_; intro g2 c2 w2 hown2 hg2 hat2 hlt2; have hb2 : Below w.heap.size w w2 := (hw.out.2.1.alloc hs1 _).trans (grown_below hg2 (fun x e => (hw.out.2.2.lt x e).1) (hs1a _)); clear hat2 hlt2))
        go_roundg (gk - 1)
        case measure => omega
        case rel => exact ⟨k + 1, by go_num, Lib.hid ⟨by omega, hb2, by rw [HN.out.1, HN.out.2]; exact hown2⟩⟩
    · have ql : decide ((k : Int) < (n : Int)) = false := by simp; omega
      rw [HDU.out] at z9
      have hrow := hw.out.2.2
      rw [List.take_of_length_le (by have := HNN.out; omega)] at hrow
      obtain ⟨a5, c5, e5⟩ := row_slice hrow
      subst e5
      have HF := Lib.hid (H.out.cutS hw.out.2.1 HI.out.1 HI.out.2.1 HI.out.2.2 hB hrow HE.out)
      clear hrow
      go_wp2_with fail
      go_end0
      obtain ⟨R', h1, h2, h3⟩ := HF.out
      exact ⟨rfl, ⟨R', h1, h2⟩, h3⟩
end
theorem preD_len {F : For} (ok : FOk F) {k : Nat} (hk : k < F.length) : (preD F k).length ≤ F.length := nodup_bound _ _ (preD_nodup ok k hk) (fun m hm => preD_lt ok hk hm)
def prf (F : For) (k : Nat) (d : List Nat) (j : Nat) : List Nat := k :: (d.take j).flatMap (preD F)
theorem prf_len {F : For} (ok : FOk F) {k : Nat} (hk : k < F.length) {x : FN} (hx : F[k]? = some x) (j : Nat) : (prf F k x.down j).length ≤ F.length := by
  refine Nat.le_trans ?_ (preD_len ok hk)
  rw [preD_eq ok hk]
  have e : dnOf F (some k) = x.down := by unfold dnOf; simp [hx]
  rw [e]
  unfold prf
  conv => rhs; rw [← List.take_append_drop j x.down, List.flatMap_append]
  simp
theorem prf_next {F : For} {k : Nat} {d : List Nat} {j c : Nat} (h : d[j]? = some c) : prf F k d (j + 1) = prf F k d j ++ preD F c := by
  unfold prf
  rw [List.take_add_one, h]
  simp
theorem prf_end {F : For} (ok : FOk F) {k : Nat} (hk : k < F.length) {x : FN} (hx : F[k]? = some x) : prf F k x.down x.down.length = preD F k := by
  rw [preD_eq ok hk]
  have e : dnOf F (some k) = x.down := by unfold dnOf; simp [hx]
  rw [e]
  unfold prf
  rw [List.take_length]
theorem row_pos {w : World} {base : Nat} {e : TypeId} {size : Nat} {v : Value} {n : Nat} {xs : List Value} (h : w.ownsRow base e size v n xs) (hn : 0 < n) : ∃ g c, v = .slice (some ⟨g, 0, none⟩) n c := by
  rcases h.2 with ⟨_, h0⟩ | ⟨gb, cap, cur, e0, _⟩
  · omega
  · exact ⟨gb, cap, e0⟩
theorem icells_add {l : List Nat} {g : Nat} {w : World} {base n c : Nat} (h : w.ownsRow base 3 1 (.slice (some ⟨g, 0, none⟩) n c) n (icells l)) (hn : l.length = n) : ∀ j u, (icells l)[j]? = some u → w.cell? ((⟨g, 0, none⟩ : Addr).add j) = some u := fun j u hu => by
  have hadd : (⟨g, 0, none⟩ : Addr).add j = ⟨g, j, none⟩ := by unfold Addr.add; split <;> simp_all
  have hj := (List.getElem?_eq_some_iff.1 hu).1
  rw [icells_len] at hj
  rw [hadd, h.cellAt j (by omega), hu]
section
variable {B : Nat} {Q : Nat → Prop} {w w' : World} {fb : Nat} {F : For} {R : List RN} {rv : Value}
set_option maxHeartbeats 4000000 in
theorem rdown_calls (h : FoAt B Q w fb F R rv) (ok : FOk F) : ∀ k, k < F.length → ∀ W, Below w.heap.size w W → Calls Tryd.prog 31 #[.pointer (some ⟨fb, 0, none⟩), .int .i64 (k : Int)] W fun e w' => ∃ v, e = .returned v ∧ w'.ownsRow W.heap.size 3 1 v (preD F k).length (icells (preD F k)) ∧ Below W.heap.size W w' := by
  refine ok.kids_ind (fun k hk ih W hW => ?_)
  have HOK := Lib.hid ok
  have h := h.below hW
  have hbig := h.big
  have b0 := h.b0
  obtain ⟨x, hx⟩ : ∃ x, F[k]? = some x := ⟨_, List.getElem?_eq_getElem hk⟩
  obtain ⟨g, cap, P, dv, e, hR, y0, y1, y8, y9, y10⟩ := h.get hx
  rw [e] at b0
  have l0 := lt_of_some h.blk
  obtain ⟨cur, hcur, _⟩ := rwBlk (by have := h.row; rw [h.len, e] at this; exact this)
  have l1 := lt_of_some hcur
  have HLB : Hid (∀ W', Below W.heap.size W W' → W'.cell? ⟨fb, 0, none⟩ = some (.slice (some ⟨g, 0, none⟩) F.length cap) ∧ W'.cell? ⟨g, k * 11 + 9, none⟩ = some dv) := Lib.hid (fun W' b => ⟨(b.cell (p := ⟨fb, 0, none⟩) l0).trans b0, (b.cell (p := ⟨g, _, none⟩) l1).trans y9⟩)
  have H := Lib.hid h
  have HK : Hid (∀ W', Below W.heap.size W W' → ∀ (j c : Nat), x.down[j]? = some c → ∃ dg dcap, dv = .slice (some ⟨dg, 0, none⟩) x.down.length dcap ∧ W'.cell? ⟨dg, j, none⟩ = some (.int .i64 (c : Int))) := Lib.hid (fun W' b j c hc => (H.out.below b).kid (List.mem_of_getElem? hR) hc)
  have hdn : dnOf F (some k) = x.down := by unfold dnOf; simp [hx]
  have HIH : Hid (∀ c ∈ x.down, ∀ W', Below W.heap.size W W' → Calls Tryd.prog 31 #[.pointer (some ⟨fb, 0, none⟩), .int .i64 (c : Int)] W' fun e w' => ∃ v, e = .returned v ∧ w'.ownsRow W'.heap.size 3 1 v (preD F c).length (icells (preD F c)) ∧ Below W'.heap.size W' w') := Lib.hid (fun c hc W' b => ih c (by rw [hdn]; exact hc) W' (hW.trans (b.mono hW.size)))
  have HPD : Hid (∀ c ∈ x.down, 0 < (preD F c).length ∧ (preD F c).length ≤ F.length) := Lib.hid (fun c hc => by
    have hcl := (HOK.out.kid_up (k := k) (c := c) (by rw [hdn]; exact hc)).2
    refine ⟨?_, preD_len HOK.out hcl⟩
    rw [preD_eq HOK.out hcl]; simp)
  have HX := Lib.hid (And.intro hk hx)
  have HPL : Hid (∀ j, (prf F k x.down j).length ≤ F.length) := Lib.hid (fun j => prf_len HOK.out hk hx j)
  have HEND : Hid (prf F k x.down x.down.length = preD F k) := Lib.hid (prf_end HOK.out hk hx)
  obtain ⟨da0, dcap0, hdu⟩ := h.dshape (List.mem_of_getElem? hR)
  have hdu : dv = .slice da0 x.down.length dcap0 := hdu
  obtain ⟨i0, hi0, hz0, hz1, hz2⟩ := info_parts infoInt
  obtain ⟨n, hnn⟩ : ∃ n, n = x.down.length := ⟨_, rfl⟩
  have HNN := Lib.hid hnn
  have hnF : n ≤ F.length := by
    have := HOK.out.sibs
    have h2 := nodup_bound F.length x.down (HOK.out.nd k x hx) (fun m hm => (HOK.out.kid_up (k := k) (c := m) (by rw [hdn]; exact hm)).2)
    omega
  rw [← hnn] at hdu
  have HDU := Lib.hid hdu
  clear h hx ih hdn hR y0 y1 y8 y10 y9 b0 e hcur hnn hdu ok
  obtain ⟨len, hlen⟩ : ∃ n, n = F.length := ⟨_, rfl⟩
  rw [← hlen] at hk hbig hnF HLB HPL HPD
  have HLEN := Lib.hid hlen
  clear hlen
  go_enter Tryd.func31, Tryd.ntmps31
  go_wp2_with fail
  go_loopg [5, 6] n (fun m v5 v6 wr => ∃ (j : Nat), v6 = .int .i64 (j : Int) ∧ Hid (j + m = n ∧ Below W.heap.size W wr ∧ wr.ownsRow W.heap.size 3 1 v5 (prf F k x.down j).length (icells (prf F k x.down j))))
  case atStart => exact ⟨0, rfl, Lib.hid ⟨by omega, (by repeat (first | exact Below.refl _ _ | assumption | refine Below.drew ?_ | refine below_drewN ?_ _ | refine Below.alloc ?_ (by simp <;> omega) _ | refine Below.setCell ?_ (by simp <;> omega) _ | (apply bl_trans; assumption; (simp <;> omega)))), World.ownsRow_lit W #[.int .i64 (k : Int)] 1 (Nat.le_refl _) (by unfold maxLen; omega) rfl⟩⟩
  case round =>
    obtain ⟨j, rfl, hw⟩ := hrel
    have b0 := (HLB.out wr hw.out.2.1).1
    have z9 := (HLB.out wr hw.out.2.1).2
    have hsum := hw.out.1
    have hs1 := hw.out.2.1.size
    by_cases hj : j < n
    · obtain ⟨c, hc⟩ : ∃ c, x.down[j]? = some c := ⟨_, List.getElem?_eq_getElem (by have := HNN.out; omega)⟩
      obtain ⟨dg, dcap, e, zc⟩ := HK.out wr hw.out.2.1 j c hc
      rw [e, ← HNN.out] at z9
      have hcm := List.mem_of_getElem? hc
      have ql : decide ((j : Int) < (n : Int)) = true := by simp; omega
      have wk : IntKind.i64.wrap ((j : Int) + 1) = (j : Int) + 1 := IntWalk.i64_in _ (by omega)
      have hlen := HPL.out j
      have hpd := HPD.out c hcm
      have hlen2 := HPL.out (j + 1)
      have HST : Hid (prf F k x.down (j + 1) = prf F k x.down j ++ preD F c) := Lib.hid (prf_next hc)
      have HCM := Lib.hid hcm
      clear e hc hcm
      generalize hpn : (prf F k x.down j).length = pn at *
      generalize hcn : (preD F c).length = cn at *
      have HN := Lib.hid (And.intro hpn hcn)
      have hm1 : pn + cn ≤ maxLen := by unfold maxLen; omega
      have hm2 : (pn + cn) * 8 ≤ 140737488355328 := by omega
      clear hpn hcn
      have HCL : Hid (∀ W', Below W.heap.size W W' → Calls Tryd.prog 31 #[.pointer (some ⟨fb, 0, none⟩), .int .i64 (c : Int)] W' fun e w' => ∃ g1 c1, e = .returned (.slice (some ⟨g1, 0, none⟩) cn c1) ∧ (∀ j u, (icells (preD F c))[j]? = some u → w'.cell? ((⟨g1, 0, none⟩ : Addr).add j) = some u) ∧ Below W'.heap.size W' w') := Lib.hid (fun W' b => (HIH.out c HCM.out W' b).mono (by
        rintro e w' ⟨v, rfl, h1, h2⟩
        rw [HN.out.2] at h1
        obtain ⟨g1, c1, rfl⟩ := row_pos h1 hpd.1
        exact ⟨g1, c1, rfl, icells_add h1 HN.out.2, h2⟩))
      have tl : (icells (preD F c)).length = cn * 1 := by rw [icells_len, HN.out.2]; omega
      have HJ : Hid (j + 1 + (gk - 1) = n) := Lib.hid (by omega)
      have HM : Hid (gk - 1 < gk) := Lib.hid (by omega)
      go_wp2_with (first | (go_at_call 31; refine (HCL.out _ hw.out.2.1).mono ?_; rintro e w1 ⟨g1, c1, rfl, hc1, hb1⟩; have hown1 := row_below hw.out.2.2 hb1; have hb2 := hw.out.2.1.trans (hb1.mono hs1); have hs2 := hb2.size; have HC1 := Lib.hid hc1; clear hc1) | (at_builtin; (refine wpList_append_any _ rfl (.tmp 22) (.tmp 35) 67 rfl W.heap.size 3 i0 _ 1 8 Tryd.underlying67 hi0 hz0 hz1 hz2 rfl Nat.one_pos _ pn (icells (prf F k x.down j)) rfl hown1 (some ⟨g1, 0, none⟩) cn c1 (icells (preD F c)) rfl tl (.inr ⟨_, rfl, HC1.out⟩) (icells_one _) hm1 hm2 hs2 ?_; intro a3 c3 w3 hown3 hg3; have hb3 : Below W.heap.size W w3 := hb2.trans (grown_below hg3 (fun x e => (hown1.lt x e).1) hs2))))
      have HV : Hid (w3.ownsRow W.heap.size 3 1 (.slice a3 (pn + cn) c3) (prf F k x.down (j + 1)).length (icells (prf F k x.down (j + 1)))) := Lib.hid (by rw [HST.out, icells_app, List.length_append, HN.out.1, HN.out.2]; exact hown3)
      go_roundg (gk - 1)
      case measure => exact HM.out
      case rel => exact ⟨j + 1, by go_num, Lib.hid ⟨HJ.out, hb3, HV.out⟩⟩
    · have hjn : j = n := by omega
      subst hjn
      have ql : decide ((j : Int) < (j : Int)) = false := by simp
      have HV : Hid (wr.ownsRow W.heap.size 3 1 u5 (preD F k).length (icells (preD F k))) := Lib.hid (by
        have := hw.out.2.2
        rw [show prf F k x.down j = preD F k by rw [← HEND.out, ← HNN.out]] at this
        exact this)
      rw [HDU.out] at z9
      go_wp2_with fail
      try rw [Exit.noGoto_ret]
      go_ret
      exact ⟨_, rfl, HV.out, hw.out.2.1⟩
end
end Go.Proofs.YtelhnaphkbpakaaDoor
