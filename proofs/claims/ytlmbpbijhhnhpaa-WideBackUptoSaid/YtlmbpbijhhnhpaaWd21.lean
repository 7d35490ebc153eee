/- The document's Text and Lone. -/
import Derived.Test.YtlmbpbijhhnhpaaWd20
import Derived.Test.YtlmbpbijhhnhpaaWd19
import Derived.Test.YtlmbpbijhhnhpaaWd17
namespace Go.Proofs.Ytlmbpbijhhnhpaa
open Go.RowKit Go.Shelf
set_option linter.unusedVariables false
set_option maxRecDepth 100000

theorem UnI.slot {w0 w : World} {l : List Un} {v : Value} (h : UnI w0 l v w) {k : Nat} {x : Un} (hk : l[k]? = some x) :
    ∃ g cap, v = .slice (some ⟨g, 0, none⟩) l.length cap ∧ g < w.heap.size ∧ w.cell? ⟨g, k * 4, none⟩ = some (.int .i64 (x.p : Int)) ∧ w.cell? ⟨g, k * 4 + 1, none⟩ = some (.int .i64 (x.n : Int)) ∧ w.cell? ⟨g, k * 4 + 2, none⟩ = some (.int .i32 (x.c : Int)) ∧ w.cell? ⟨g, k * 4 + 3, none⟩ = some (.bool x.lone) := by
  have hl : k < l.length := (List.getElem?_eq_some_iff.1 hk).1
  obtain ⟨g, cap, rfl, _⟩ := h.row.form (by omega)
  have c (j : Nat) (hj : j < 4) := (h.row.cellAt (k * 4 + j) (fl_lt hl hj)).trans (fl_at unCells_len hk j hj)
  have c0 := c 0 (by omega)
  have c1 := c 1 (by omega)
  have c2 := c 2 (by omega)
  have c3 := c 3 (by omega)
  simp [unCells] at c0 c1 c2 c3
  exact ⟨g, cap, rfl, block_lt_of_cell c0, c0, c1, c2, c3⟩
theorem UnI.keep {w0 w w' : World} {l : List Un} {v : Value} (h : UnI w0 l v w) {T : List TypeId} {B : Nat} (f : FrT T B w w') (h1 : 98 ∉ T) (h2 : w0.heap.size ≤ B) : UnI w0 l v w' :=
  ⟨f.row h.row h1, h.bel.trans ((f.mono (fun _ h => h) h2).below h.le), Nat.le_trans h.le f.size⟩

theorem un_lone {us : List Nat} (hb : ∀ u ∈ us, u ≤ 65535) {x : Un} (hx : x ∈ uns us) : x.c ≤ 1114111 ∧ (x.lone = true ↔ 55296 ≤ x.c ∧ x.c ≤ 57343) := by
  obtain ⟨q, hq, rfl⟩ := unsFrom_mem us 0 x hx
  have hq' : us.getD q 0 ≤ 65535 := by
    rw [getD_of (List.getElem?_eq_getElem hq)]
    exact hb _ (List.getElem_mem hq)
  unfold unAt
  split
  · rename_i hp
    obtain ⟨h1, h2, h3, h4, h5⟩ := hp
    simp only
    constructor
    · omega
    · simp; omega
  · simp only [decide_eq_true_eq]
    omega
theorem unC_eq {us : List Nat} (hb : ∀ u ∈ us, u ≤ 65535) {x : Un} (hx : x ∈ uns us) : unC x = if x.lone then 65533 else x.c := by
  have h := (un_lone hb hx).2
  unfold unC
  cases hl : x.lone with
  | true => rw [if_pos (h.1 hl)]; rfl
  | false => rw [if_neg (fun hc => by rw [h.2 hc] at hl; cases hl)]; rfl

theorem encB_one {l : List Nat} : ∀ u ∈ encB l, u.oneCell' = true := by
  intro u hu
  obtain ⟨x, _, rfl⟩ := List.mem_map.1 hu
  rfl

structure TxI (w0 : World) (l : List Un) (uv : Value) (bs : List Nat) (v : Value) (w : World) : Prop where
  un : UnI w0 l uv w
  row : w.ownsRow w0.heap.size 5 1 v bs.length (encB bs)

theorem take_snoc_flat {l : List Un} {k : Nat} {x : Un} (h : l[k]? = some x) : textU (l.take (k + 1)) = textU (l.take k) ++ runeB (unC x) := by
  rw [List.take_add_one, h]
  exact textU_snoc _ _

set_option maxHeartbeats 4000000 in
theorem ref_text {w : World} {a : Option Addr} {us : List Nat} (ca : Nat) (hA : Sl16 w a us) (hl : us.length ≤ 1099511627776) :
    Calls Try.prog 53 #[.slice a us.length ca] w fun e w' => e = .returned (.string (strB (textU (uns us)))) ∧ Below w.heap.size w w' := by
  have HA := Lib.hid hA
  have hbnd := hA.bnd
  have HB := Lib.hid hbnd
  obtain ⟨N, hN⟩ : ∃ N, N = us.length := ⟨_, rfl⟩
  have HN := Lib.hid hN
  rw [← hN] at hl ⊢
  obtain ⟨i5, hi5, ha1, ha2, ha3⟩ := info_parts info5
  clear hA hN hbnd
  go_enter Try.func53, Try.ntmps53
  go_wp2_with fail
  rw [HN.out]
  refine (ref_units ca HA.out (by rw [← HN.out]; omega)).mono ?_
  rw [← HN.out]
  rintro e w1 ⟨uv, rfl, hU⟩
  have hul := uns_len us
  obtain ⟨L, hL⟩ : ∃ L, L = uns us := ⟨_, rfl⟩
  have HLL := Lib.hid hL
  rw [← hL] at hU hul
  obtain ⟨ua, uc, rfl⟩ := rwSlice hU.row
  obtain ⟨M, hM⟩ : ∃ M, M = L.length := ⟨_, rfl⟩
  have HM := Lib.hid hM
  have hMl : M ≤ 1099511627776 := by rw [hM]; rw [← HN.out] at hul; omega
  rw [← hM] at hU ⊢
  have HU := Lib.hid hU
  clear hU hul hL hM
  go_wp2_with fail
  go_loopw [4, 5] (fun v vi wr => ∃ k : Nat, k ≤ M ∧ vi = .int .i64 (k : Nat) ∧ TxI w L (.slice ua M uc) (textU (L.take k)) v wr) (fun _ v _ => M - (intOf v).toNat)
  case atStart => exact ⟨0, Nat.zero_le _, rfl, HU.out, World.ownsRow_nil _ _ _ _⟩
  case round =>
    obtain ⟨k, hk, rfl, hI⟩ := hrel
    have HI := Lib.hid hI
    by_cases hlt : k < M
    · obtain ⟨x, hx⟩ : ∃ x, L[k]? = some x := ⟨_, List.getElem?_eq_getElem (by rw [← HM.out]; exact hlt)⟩
      obtain ⟨g, cap, hv, hg, c0, c1, c2, c3⟩ := hI.un.slot hx
      rw [← HM.out] at hv
      simp at hv
      obtain ⟨rfl, rfl⟩ := hv
      have p1 : (k : Int) < (M : Int) := by omega
      have p2 : (0 : Int) ≤ (k : Int) := by omega
      have hxm : x ∈ uns us := by rw [← HLL.out]; exact List.mem_of_getElem? hx
      have huc := unC_eq HB.out hxm
      have hcb := (un_lone HB.out hxm).1
      have hts := take_snoc_flat hx
      have hle := hI.un.le
      have hrow := hI.row
      obtain ⟨va, vc, rfl⟩ := rwSlice hrow
      have hlen : (textU (L.take k)).length ≤ 70368744177664 := by
        have h1 := textU_len (L.take k)
        have h2 : (L.take k).length ≤ k := by simp; omega
        omega
      obtain ⟨n, hn⟩ : ∃ n, n = (textU (L.take k)).length := ⟨_, rfl⟩
      rw [← hn] at hlen hrow ⊢
      obtain ⟨y, hy⟩ : ∃ y, y = unC x := ⟨_, rfl⟩
      have hyb : y ≤ 1114111 := by rw [hy, huc]; split <;> omega
      have hy4 := runeB_len y
      rw [← hy] at hts huc
      have hbytes := fun w => ref_bytes y hyb w
      obtain ⟨bs, hbs⟩ : ∃ bs, bs = runeB y := ⟨_, rfl⟩
      rw [← hbs] at hts hy4 hbytes
      have HBY := Lib.hid hbytes
      have HTS := Lib.hid hts
      have HROW := Lib.hid hrow
      have HNN := Lib.hid hn
      obtain ⟨m, hm⟩ : ∃ m, m = bs.length := ⟨_, rfl⟩
      rw [← hm] at hy4 HBY
      have HMM := Lib.hid hm
      clear hx hxm hts hI hrow hn hbytes hy hbs hm c0 c1
      cases hlo : x.lone with
      | true =>
        rw [hlo] at huc c3
        simp at huc
        subst huc
        clear hlo
        go_wp2_with fail
        refine (HBY.out _).mono ?_
        rintro e w3 ⟨rfl, rfl⟩
        obtain ⟨wn, hwn⟩ : ∃ wn, wn = wr.alloc (.cells (encB bs).toArray 5) := ⟨_, rfl⟩
        have hblk : wn.heap[wr.heap.size]? = some (.cells (encB bs).toArray 5 (0, 0)) := by rw [hwn]; exact Go.heap_alloc_new wr _
        have hrown := HROW.out.alloc (.cells (encB bs).toArray 5)
        rw [← hwn] at hrown
        have hsz : w.heap.size ≤ wn.heap.size := by rw [hwn]; simp; omega
        rw [← hwn]
        have HWN := Lib.hid hwn
        have HBK := Lib.hid (And.intro hblk hrown)
        clear hwn hblk hrown c2 c3
        go_wp2_with (at_builtin; refine wpList_append_any _ rfl (.tmp 25) (.tmp 27) 100 rfl w.heap.size 5 i5 _ 1 1 Try.underlying100 hi5 ha1 ha2 ha3 rfl (by omega) _ n _ rfl HBK.out.2 (some ⟨wr.heap.size, 0, none⟩) m m (encB bs) rfl (by rw [encB_len, HMM.out]; simp) (.inr ⟨_, rfl, fun j u hj => by rw [addr_add_off, Nat.zero_add]; exact cell_blk HBK.out.1 j (by simpa using hj)⟩) encB_one (by unfold maxLen; omega) (by omega) hsz ?_)
        intro a3 c3 w3 hown3 hgrow3
        have HF : Hid (TxI w L (.slice (some ⟨g, 0, none⟩) M uc) (textU (L.take (k + 1))) (.slice a3 (n + m) c3) w3) := Lib.hid (by
          have f : FrT [5] w.heap.size wr w3 := by
            have f1 : FrT [5] w.heap.size wr wn := by rw [HWN.out]; exact (FrT.refl _ _ _).alloc _
            exact f1.append HBK.out.2 (Nat.le_refl _) (by simp) hgrow3
          refine ⟨HI.out.un.keep f (by decide) (Nat.le_refl _), ?_⟩
          rw [HTS.out, encB_append, List.length_append, ← HNN.out, ← HMM.out]
          exact hown3)
        clear hown3 hgrow3
        go_wp2
        go_roundw
        case rel => exact ⟨k + 1, hlt, by go_num, HF.out⟩
        case measure => simp [intOf]; omega
      | false =>
        rw [hlo] at huc c3
        simp at huc
        subst huc
        clear hlo
        go_wp2_with fail
        refine (HBY.out _).mono ?_
        rintro e w3 ⟨rfl, rfl⟩
        obtain ⟨wn, hwn⟩ : ∃ wn, wn = wr.alloc (.cells (encB bs).toArray 5) := ⟨_, rfl⟩
        have hblk : wn.heap[wr.heap.size]? = some (.cells (encB bs).toArray 5 (0, 0)) := by rw [hwn]; exact Go.heap_alloc_new wr _
        have hrown := HROW.out.alloc (.cells (encB bs).toArray 5)
        rw [← hwn] at hrown
        have hsz : w.heap.size ≤ wn.heap.size := by rw [hwn]; simp; omega
        rw [← hwn]
        have HWN := Lib.hid hwn
        have HBK := Lib.hid (And.intro hblk hrown)
        clear hwn hblk hrown c2 c3
        go_wp2_with (at_builtin; refine wpList_append_any _ rfl (.tmp 25) (.tmp 27) 100 rfl w.heap.size 5 i5 _ 1 1 Try.underlying100 hi5 ha1 ha2 ha3 rfl (by omega) _ n _ rfl HBK.out.2 (some ⟨wr.heap.size, 0, none⟩) m m (encB bs) rfl (by rw [encB_len, HMM.out]; simp) (.inr ⟨_, rfl, fun j u hj => by rw [addr_add_off, Nat.zero_add]; exact cell_blk HBK.out.1 j (by simpa using hj)⟩) encB_one (by unfold maxLen; omega) (by omega) hsz ?_)
        intro a3 c3 w3 hown3 hgrow3
        have HF : Hid (TxI w L (.slice (some ⟨g, 0, none⟩) M uc) (textU (L.take (k + 1))) (.slice a3 (n + m) c3) w3) := Lib.hid (by
          have f : FrT [5] w.heap.size wr w3 := by
            have f1 : FrT [5] w.heap.size wr wn := by rw [HWN.out]; exact (FrT.refl _ _ _).alloc _
            exact f1.append HBK.out.2 (Nat.le_refl _) (by simp) hgrow3
          refine ⟨HI.out.un.keep f (by decide) (Nat.le_refl _), ?_⟩
          rw [HTS.out, encB_append, List.length_append, ← HNN.out, ← HMM.out]
          exact hown3)
        clear hown3 hgrow3
        go_wp2
        go_roundw
        case rel => exact ⟨k + 1, hlt, by go_num, HF.out⟩
        case measure => simp [intOf]; omega
    · have e : L.take k = uns us := by rw [List.take_of_length_le (by rw [← HM.out]; omega), HLL.out]
      rw [e] at HI
      have hrow := HI.out.row
      have hle := textU_le HB.out
      obtain ⟨va, vc, rfl⟩ := rwSlice hrow
      obtain ⟨n, hn⟩ : ∃ n, n = (textU (uns us)).length := ⟨_, rfl⟩
      rw [← hn] at hrow ⊢
      have hconv := run_string_row (P := Try.prog) (w := wr) (src := 100) (dst := 9) (l := textU (uns us)) Try.underlying100 Try.underlying5 Try.underlying9 hrow hle
      clear hrow hle e hI hn
      go_wp2
      go_ret
      exact ⟨rfl, HI.out.un.bel⟩
end Go.Proofs.Ytlmbpbijhhnhpaa
