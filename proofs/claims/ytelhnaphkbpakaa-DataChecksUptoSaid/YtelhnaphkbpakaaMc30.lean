/- The document's at and Attr walked. -/
import Derived.Test.YtelhnaphkbpakaaMc29
namespace Go.Proofs.Ytelhnaphkbpakaa
open Go.RowKit
set_option linter.unusedVariables false
set_option maxRecDepth 100000

theorem atD_at {L : List LA} {name : ByteArray} {i : Nat} {x : LA} (hx : L[i]? = some x) (hm : isNm name x = true) (hno : ∀ (j : Nat) (x : LA), j < i → L[j]? = some x → isNm name x = false) : atD L name = (i : Int) := by
  have hil : i < L.length := (List.getElem?_eq_some_iff.1 hx).1
  have h1 : L.findIdx (isNm name) = i := by
    rw [List.findIdx_eq hil]
    have hxe : L[i] = x := by rw [List.getElem?_eq_getElem hil] at hx; exact Option.some.inj hx
    refine ⟨by rw [hxe]; exact hm, fun j hj => ?_⟩
    exact hno j _ hj (List.getElem?_eq_getElem (by omega))
  unfold atD
  rw [h1, if_pos hil]
theorem atD_not {L : List LA} {name : ByteArray} (hno : ∀ (j : Nat) (x : LA), j < L.length → L[j]? = some x → isNm name x = false) : atD L name = -1 := by
  unfold atD
  rw [if_neg]
  intro h
  have h1 := List.findIdx_getElem (w := h)
  rw [hno _ _ h (List.getElem?_eq_getElem h)] at h1
  exact absurd h1 (by simp)

set_option maxHeartbeats 4000000 in
theorem atR_calls (w : World) (N : Nd) (h : NdIn w N) (name : ByteArray) :
    Calls Try.prog 72 #[N.v, .string name] w fun e w' => e = .returned (.int .i64 (atD N.L name)) ∧ Below w.heap.size w w' := by
  have hA := h.attrs
  obtain ⟨k, nm, da, dc, data, aa, ac, L, sl, ge⟩ := N
  simp only [Nd.v, Nd.cells] at *
  obtain ⟨n, en⟩ : ∃ n, n = L.length := ⟨_, rfl⟩
  have hl := hA.len
  rw [← en] at hl ⊢
  have HN := Lib.hid en
  obtain ⟨V, hV⟩ : ∃ V, V = w.alloc (.cells #[.int .i64 k, .string nm, .slice da data.length dc, .slice aa n ac, .int .u32 sl, .int .u32 ge] 30) := ⟨_, rfl⟩
  have hb0 : Below w.heap.size w V := by rw [hV]; exact (Below.refl _ w).alloc (Nat.le_refl _) _
  have hx0 : V.heap[w.heap.size]? = some (.cells #[.int .i64 k, .string nm, .slice da data.length dc, .slice aa n ac, .int .u32 sl, .int .u32 ge] 30 (0, 0)) := by rw [hV]; exact Go.heap_alloc_new w _
  have HA := Lib.hid (hA.below hb0)
  have c3 := cell_blk hx0 3 rfl
  have l0 := lt_of_some hx0
  simp at c3
  have HV := Lib.hid (And.intro hV hb0)
  clear hA h en hb0 hx0 hV
  go_enter Try.func72, Try.ntmps72
  go_wp2_with fail
  rw [← HV.out.1]
  go_loopw [5] (fun v wr => ∃ i : Nat, v = .int .i64 (i : Nat) ∧ i ≤ n ∧ (∀ (j : Nat) (x : LA), j < i → L[j]? = some x → isNm name x = false) ∧ wr = V) (fun v _ => n - (intOf v).toNat)
  case atStart => exact ⟨0, rfl, Nat.zero_le _, fun _ _ h => absurd h (Nat.not_lt_zero _), rfl⟩
  case round =>
    obtain ⟨i, rfl, hi, hno, rfl⟩ := hrel
    by_cases hlt : i < n
    · obtain ⟨x, hx⟩ : ∃ x, L[i]? = some x := ⟨_, List.getElem?_eq_getElem (by rw [← HN.out]; exact hlt)⟩
      obtain ⟨bb, off, rfl, hbl, c1, c2⟩ := HA.out.get hx
      have p1 : (i : Int) < (n : Int) := by omega
      have p2 : (0 : Int) ≤ (i : Int) := by omega
      cases hm : isNm name x with
      | true =>
        have hm2 : (x.name.toList == name.toList) = true := hm
        have HAT := Lib.hid (atD_at hx hm hno)
        clear hx hno hm
        go_wp2_with fail
        exact bodyPost_ret (v := .int .i64 (i : Int)) (by simp [results, Try.results72, go_sem]) rfl ⟨by rw [HAT.out], HV.out.2⟩
      | false =>
        have hm2 : (x.name.toList == name.toList) = false := hm
        have HNO := Lib.hid hno
        have HX := Lib.hid (And.intro hx hm)
        clear hx hno hm
        go_wp2_with fail
        go_roundw
        case rel =>
          refine ⟨i + 1, by go_num, hlt, fun j y hj hy => ?_, by first | rfl | trivial⟩
          rcases Nat.lt_or_ge j i with h | h
          · exact HNO.out j y h hy
          · obtain rfl : j = i := by omega
            rw [HX.out.1] at hy
            cases hy
            exact HX.out.2
        case measure => simp [intOf]; omega
    · obtain rfl : n = i := by omega
      have p1 : ¬ (n : Int) < (n : Int) := by omega
      have HAT := Lib.hid (atD_not (L := L) (name := name) (fun j x hj hx => hno j x (by rw [HN.out]; exact hj) hx))
      clear hno hlt
      go_wp2_with fail
      exact bodyPost_ret (v := .int .i64 (-1)) (by simp [results, Try.results72, go_sem]) rfl ⟨by rw [HAT.out], HV.out.2⟩

/-- What Attr tells: the value, whether there is one, the error. -/
def attrO (c : NC) (name : ByteArray) : List Nat × Bool × Int :=
  if c.kind = 1 then (match attrD c.attrs name with | none => ([], false, 0) | some us => (us, true, 0)) else ([], false, 63)
theorem attrO_no {N : Nd} {name : ByteArray} (h : N.kind ≠ 1) : attrO N.c name = ([], false, 63) := if_neg h
theorem attrO_none {N : Nd} {name : ByteArray} (h : N.kind = 1) (h2 : attrD (N.L.map attrOf) name = none) : attrO N.c name = ([], false, 0) := by
  unfold attrO
  rw [if_pos (show N.c.kind = 1 from h), show attrD N.c.attrs name = none from h2]
theorem attrO_some {N : Nd} {name : ByteArray} {us : List Nat} (h : N.kind = 1) (h2 : attrD (N.L.map attrOf) name = some us) : attrO N.c name = (us, true, 0) := by
  unfold attrO
  rw [if_pos (show N.c.kind = 1 from h), show attrD N.c.attrs name = some us from h2]
theorem attr_u (w : World) (N : Nd) (h : NdIn w N) (hB : N.Bd 1099511627776) (name : ByteArray) {xs : List Nat} {is : Bool} {k : Int} (e : attrO N.c name = (xs, is, k)) :
    Calls Try.prog 29 #[N.v, .string name] w fun e w' => ∃ a, e = .returned (.tuple #[.slice a xs.length xs.length, .bool is, .int .i64 k]) ∧ Clip16 w.heap.size w' a xs ∧ Below w.heap.size w w' := by
  refine (attr_calls w N h hB name).mono ?_
  rintro r w' ⟨hb, hc⟩
  rcases hc with ⟨h1, h2⟩ | ⟨h1, h2, h3⟩ | ⟨h1, us, a, h2, h3, h4⟩
  · rw [attrO_no h1] at e
    cases e
    exact ⟨none, h2, Clip16.nil _ _, hb⟩
  · rw [attrO_none h1 h2] at e
    cases e
    exact ⟨none, h3, Clip16.nil _ _, hb⟩
  · rw [attrO_some h1 h2] at e
    cases e
    exact ⟨a, h3, h4, hb⟩

set_option maxHeartbeats 4000000 in
theorem attrR_u (w : World) (N : Nd) (h : NdIn w N) (hB : N.Bd 1099511627776) (name : ByteArray) {xs : List Nat} {is : Bool} {kk : Int} (e : attrO N.c name = (xs, is, kk)) :
    Calls Try.prog 30 #[N.v, .string name] w fun e w' => ∃ a c, e = .returned (.tuple #[.slice a xs.length c, .bool is, .int .i64 kk]) ∧ Clip16 w.heap.size w' a xs ∧ Below w.heap.size w w' := by
  obtain ⟨V, hV⟩ : ∃ V, V = w.alloc (.cells N.cells 30) := ⟨_, rfl⟩
  have hb0 : Below w.heap.size w V := by rw [hV]; exact (Below.refl _ w).alloc (Nat.le_refl _) _
  have x0 : V.heap[w.heap.size]? = some (.cells N.cells 30 (0, 0)) := by rw [hV]; exact Go.heap_alloc_new w _
  have hAT := atR_calls V N (h.below hb0) name
  have hV2 := hV
  have HX := Lib.hid (And.intro x0 (And.intro hb0 hV))
  have HI := Lib.hid (And.intro h hB)
  unfold Nd.cells at hV2
  unfold Nd.v Nd.cells at hAT ⊢
  obtain ⟨y0, y1, y2, y3, y4, y5, ly⟩ := box_cells x0
  clear x0 hb0 hV h hB
  by_cases hk : N.kind = 1
  · have HK := Lib.hid hk
    rw [hk] at hV2 hAT y0 ⊢
    clear hk
    cases hf : N.L.find? (isNm name) with
    | none =>
      rw [attrO_none HK.out (by rw [attrD_find, hf]; rfl)] at e
      cases e
      rw [atD_none hf] at hAT
      have HAT := Lib.hid hAT
      rw [hV2] at HAT y0 y1 y2 y3 y4 y5
      clear hAT hf
      go_enter Try.func30, Try.ntmps30
      go_wp2_with fail
      refine HAT.out.mono ?_
      rintro e w1 ⟨rfl, b1⟩
      rw [← hV2] at b1
      have B1 := Lib.hid (HX.out.2.1.trans (b1.mono HX.out.2.1.size))
      clear b1 hV2 HAT y0 y1 y2 y3 y4 y5 ly
      go_wp2_with fail
      exact bodyPost_ret (v := .tuple #[.slice none 0 0, .bool false, .int .i64 0]) (by simp [results, Try.results30, go_sem]) rfl ⟨none, 0, rfl, Clip16.nil _ _, B1.out⟩
    | some x =>
      rw [attrO_some HK.out (by rw [attrD_find, hf]; rfl)] at e
      cases e
      obtain ⟨i, hi, hx, hia, _, _⟩ := atD_some hf
      rw [hia] at hAT
      have HAT := Lib.hid hAT
      have HXX := Lib.hid (And.intro hx hi)
      rw [hV2] at HAT y0 y1 y2 y3 y4 y5
      have p0 : (0 : Int) ≤ (i : Int) := by omega
      have p0' : ¬ (i : Int) < 0 := by omega
      have p1 : (i : Int) < (N.L.length : Int) := by omega
      clear hAT hf hx hia hi
      go_enter Try.func30, Try.ntmps30
      go_wp2_with fail
      refine HAT.out.mono ?_
      rintro e w1 ⟨rfl, b1⟩
      rw [← hV2] at b1
      have x1 := (b1.block _ (lt_of_some HX.out.1)).trans HX.out.1
      have B1 := Lib.hid (HX.out.2.1.trans (b1.mono HX.out.2.1.size))
      have s1 := B1.out.size
      clear b1 hV2 HAT y0 y1 y2 y3 y4 y5 ly
      obtain ⟨y0, y1, y2, y3, y4, y5, ly⟩ := box_cells x1
      rw [HK.out] at y0
      have hN1 := HI.out.1.below B1.out
      have hmem := List.mem_of_getElem? HXX.out.1
      obtain ⟨bb, off, hNA, hbl, c1, c2⟩ := hN1.attrs.get HXX.out.1
      rw [hNA] at y3
      have HCP := Lib.hid (copied_calls w1 x.vc (hN1.attrs.val x hmem) (HI.out.2.val x hmem))
      have HBN := Lib.hid (hN1.attrs.val x hmem)
      have HVL := Lib.hid (HI.out.2.val x hmem)
      clear hNA x1 hN1 hmem
      go_wp2_with fail
      refine HCP.out.mono ?_
      rintro e w2 ⟨a', c', rfl, hr2, b2⟩
      have HR2 := Lib.hid (And.intro hr2 b2)
      clear hr2 b2
      go_wp2_with fail
      have hvl := HVL.out
      exact bodyPost_ret (v := .tuple #[.slice a' x.val.length c', .bool true, .int .i64 0]) (by simp [results, Try.results30, go_sem]) rfl ⟨a', c', rfl, ⟨⟨c', HR2.out.1.mono s1⟩, HBN.out.bnd, by omega⟩, B1.out.trans (HR2.out.2.mono s1)⟩
  · rw [attrO_no hk] at e
    cases e
    have hk3 : (N.kind != 1) = true := by simp [hk]
    rw [hV2] at y0 y1 y2 y3 y4 y5
    go_enter Try.func30, Try.ntmps30
    go_wp2_with fail
    rw [← hV2]
    exact bodyPost_ret (v := .tuple #[.slice none 0 0, .bool false, .int .i64 63]) (by simp [results, Try.results30, go_sem]) rfl ⟨none, 0, rfl, Clip16.nil _ _, HX.out.2.1⟩
end Go.Proofs.Ytelhnaphkbpakaa

