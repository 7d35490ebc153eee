/- WideJoined walked. -/
import Derived.Test.YtlmbpbijhhnhpaaWd18
import Derived.Test.YtlmbpbijhhnhpaaWj3
import Derived.Test.YtlmbpbijhhnhpaaWj4
import Derived.Test.YtlmbpbijhhnhpaaWj5
import Derived.Deep.DeepCutAuto
import Derived.Deep.CutBlock
namespace Go.Proofs.Ytlmbpbijhhnhpaa
open Go.RowKit Go.Shelf
set_option linter.unusedVariables false
set_option maxRecDepth 100000

theorem below_drewN {B : Nat} {w : World} (h : B ≤ w.heap.size) (k : Nat) : Below B w (w.drewN k) := ((FrT.refl [] B w).drewN k).below h
def half16 (x : Nat) : Bool := decide (55296 ≤ x) && decide (x < 57344)
theorem any_take {l : List Nat} {k z : Nat} (h : l[k]? = some z) : (l.take (k + 1)).any half16 = ((l.take k).any half16 || half16 z) := by
  rw [List.take_add_one, h]; simp
theorem half_whole {l : List Nat} (h : l.any half16 = false) : Whole16 l := by
  intro x hx hh
  have := List.any_eq_false.1 h x hx
  simp [half16] at this
  omega
/-- What the units' order says of the texts'. -/
theorem order_texts (us vs : List Nat) (hu : ∀ x ∈ us, x ≤ 65535) (hv : ∀ x ∈ vs, x ≤ 65535) (h : (us ++ vs).any half16 = false) :
    Op.bytesLess (strB (textU (uns us))).toList (strB (textU (uns vs))).toList = decide (cmp16 us vs = -1) ∧ ((strB (textU (uns us))).toList == (strB (textU (uns vs))).toList) = decide (cmp16 us vs = 0) := by
  rw [List.any_append, Bool.or_eq_false_iff] at h
  rw [less_texts _ _ (textU_le hu) (textU_le hv), same_texts _ _ (textU_le hu) (textU_le hv), text_whole us (half_whole h.1), text_whole vs (half_whole h.2),
    cmp16_texts us vs (fun x hx => by have := hu x hx; omega) (fun x hx => by have := hv x hx; omega)]
  exact ⟨rfl, rfl⟩
/-- Three ways. -/
theorem cmp16_ways (us vs : List Nat) : ∃ (c cr : Int) (sm : Bool), cmp16 us vs = c ∧ cmp16 vs us = cr ∧ decide (us = vs) = sm ∧ ((c = -1 ∧ cr = 1 ∧ sm = false) ∨ (c = 0 ∧ cr = 0 ∧ sm = true) ∨ (c = 1 ∧ cr = -1 ∧ sm = false)) := by
  refine ⟨_, _, _, rfl, rfl, rfl, ?_⟩
  have hn := cmp16_neg vs us
  by_cases h : us = vs
  · have h0 := cmp16_zero.2 h
    rw [h0] at hn ⊢
    rw [hn, decide_eq_true h]
    simp
  · have h0 : ¬ cmp16 us vs = 0 := fun e => h (cmp16_zero.1 e)
    rw [hn, decide_eq_false h]
    rcases cmp16_three us vs with h1 | h1 | h1
    · rw [h1]; simp
    · exact absurd h1 h0
    · rw [h1]; simp

set_option maxHeartbeats 4000000 in
theorem joined_walk (w : World) (s : ByteArray) (hs : s.size ≤ 1048576) (t : ByteArray) (ht : t.size ≤ 1048576) {a b : Option Addr} {us vs : List Nat} (ca : Nat) (ha : Sl16 w a us) (hu : us.length ≤ 1048576) (cb : Nat) (hb : Sl16 w b vs) (hv : vs.length ≤ 1048576) :
    Calls Try.prog 7 #[.string s, .string t, .slice a us.length ca, .slice b vs.length cb] w fun e w' => e = .returned (.bool true) ∧ Below w.heap.size w w' := by
  obtain ⟨i79, hi79, ha1, ha2, ha3⟩ := info_parts info79
  have HA := Lib.hid ha
  have HB := Lib.hid hb
  clear ha hb
  obtain ⟨n, hn⟩ : ∃ n, n = us.length := ⟨_, rfl⟩
  obtain ⟨m, hm⟩ : ∃ m, m = vs.length := ⟨_, rfl⟩
  rw [← hn] at hu ⊢
  rw [← hm] at hv ⊢
  have HN := Lib.hid hn
  have HM := Lib.hid hm
  have hTU : ∀ w', Below w.heap.size w w' → Calls Try.prog 46 #[.slice a n ca] w' fun e w'' => e = .returned (.string (strB (textU (uns us)))) ∧ Below w'.heap.size w' w'' := fun w' b => by rw [hn]; exact text_calls w' ca (HA.out.below b) (by omega)
  have hTV : ∀ w', Below w.heap.size w w' → Calls Try.prog 46 #[.slice b m cb] w' fun e w'' => e = .returned (.string (strB (textU (uns vs)))) ∧ Below w'.heap.size w' w'' := fun w' b => by rw [hm]; exact text_calls w' cb (HB.out.below b) (by omega)
  have hCM : ∀ w', Below w.heap.size w w' → Calls Try.prog 40 #[.slice a n ca, .slice b m cb] w' fun e w'' => e = .returned (.int .i64 (cmp16 us vs)) ∧ w' = w'' := fun w' b => by rw [hn, hm]; exact wide_compare ca cb (HA.out.below b) (HB.out.below b)
  have hCR : ∀ w', Below w.heap.size w w' → Calls Try.prog 40 #[.slice b m cb, .slice a n ca] w' fun e w'' => e = .returned (.int .i64 (cmp16 vs us)) ∧ w' = w'' := fun w' b => by rw [hn, hm]; exact wide_compare cb ca (HB.out.below b) (HA.out.below b)
  have hSM : ∀ w', Below w.heap.size w w' → Calls Try.prog 45 #[.slice a n ca, .slice b m cb] w' fun e w'' => e = .returned (.bool (decide (us = vs))) ∧ ∃ k, w'.drewN k = w'' := fun w' b => by rw [hn, hm]; exact ref_same ca cb (HA.out.below b) (HB.out.below b)
  have hTW := text_two us vs
  have hOR := order_texts us vs HA.out.bnd HB.out.bnd
  obtain ⟨c, cr, sm, e1, e2, e3, hways⟩ := cmp16_ways us vs
  rw [e1] at hOR
  simp only [e1, e2, e3] at hCM hCR hSM
  clear e1 e2 e3
  have hTJ : (∀ x, us.getLast? = some x → ¬ (55296 ≤ x ∧ x < 56320)) → strB (textU (uns (us ++ vs))) = strB (textU (uns us)) ++ strB (textU (uns vs)) := fun h => by rw [strB_append, hTW h]
  have lU : (strB (textU (uns us))).size ≤ 4194304 := by have h1 := textU_len (uns us); have h2 := uns_len us; rw [strB_size]; omega
  have lV : (strB (textU (uns vs))).size ≤ 4194304 := by have h1 := textU_len (uns vs); have h2 := uns_len vs; rw [strB_size]; omega
  generalize strB (textU (uns us)) = tU at hTU hOR hTJ lU
  generalize strB (textU (uns vs)) = tV at hTV hOR hTJ lV
  have HTU := Lib.hid hTU
  have HTV := Lib.hid hTV
  have HCM := Lib.hid hCM
  have HCR := Lib.hid hCR
  have HSM := Lib.hid hSM
  have HTJ := Lib.hid hTJ
  have HOR := Lib.hid hOR
  have HWY := Lib.hid hways
  clear hn hm hTU hTV hCM hCR hSM hTW hTJ hOR hways
  have hS := fun w => from_calls s (by omega) w
  have hT := fun w => from_calls t (by omega) w
  have hST := fun w => from_calls (s ++ t) (by rw [ByteArray.size_append]; omega) w
  have hE := fun w => ends_open s (by omega) w
  have hO := @openEnd_closed s
  have htwo := from_two s t
  have lS : (fromPc (pcs s)).length ≤ 2097152 := by have h1 := fromPc_len (pcs s); have h2 := pcs_len s; omega
  have lT : (fromPc (pcs t)).length ≤ 2097152 := by have h1 := fromPc_len (pcs t); have h2 := pcs_len t; omega
  generalize fromPc (pcs s) = fs at hS htwo lS
  generalize fromPc (pcs t) = ft at hT htwo lT
  generalize fromPc (pcs (s ++ t)) = fst' at hST htwo
  generalize openEnd s = oe at hE hO
  have htwo' : oe = false → fst' = fs ++ ft := fun h => htwo (hO h)
  obtain ⟨x, hx⟩ : ∃ x, x = fs.length := ⟨_, rfl⟩
  obtain ⟨y, hy⟩ : ∃ y, y = ft.length := ⟨_, rfl⟩
  rw [← hx] at hS lS
  rw [← hy] at hT lT
  have HS := Lib.hid hS
  have HT := Lib.hid hT
  have HST := Lib.hid hST
  have HE := Lib.hid hE
  have H2 := Lib.hid htwo'
  have HX := Lib.hid hx
  have HY := Lib.hid hy
  clear hS hT hST hE hO htwo htwo' hx hy
  go_enter Try.func7, Try.ntmps7
  go_wp2_with fail
  refine (alive_true _).mono ?_
  rintro e w1 ⟨rfl, b1⟩
  have hz := R16.zero b1 b1.size
  have B1 := Lib.hid b1
  have HA1 := Lib.hid ((HA.out.below b1).below ((Below.refl _ w1).alloc (Nat.le_refl _) (.cells #[] 79)))
  have HB1 := Lib.hid ((HB.out.below b1).below ((Below.refl _ w1).alloc (Nat.le_refl _) (.cells #[] 79)))
  have HZ := Lib.hid hz
  clear b1 hz
  go_wp2_with fail
  refine (HS.out _).mono ?_
  rintro e w2 ⟨a2, rfl, hc2, b2⟩
  have HZ2 := Lib.hid (HZ.out.below b2)
  have HA2 := Lib.hid (HA1.out.below b2)
  have HB2 := Lib.hid (HB1.out.below b2)
  have HC2 := Lib.hid hc2
  have HSL2 := Lib.hid hc2.sl
  have hle2 := HZ2.out.le
  clear hc2 b2
  go_wp2_with (at_builtin; refine wpList_append_any _ rfl (.tmp 22) (.tmp 24) 73 rfl w.heap.size 79 i79 _ 1 2 Try.underlying73 hi79 ha1 ha2 ha3 rfl (by omega) _ 0 [] rfl HZ2.out.row a2 x x (enc16 fs) rfl (by rw [enc16_len, HX.out]; simp) (by rw [HX.out]; exact HSL2.out.src) enc16_one (by unfold maxLen; omega) (by omega) hle2 ?_)
  intro a3 c3 w3 hown3 hgrow3
  have HR3 : Hid (R16 w.heap.size w w3 a3 x c3 fs) := Lib.hid (by
    have h := HZ2.out.push (c' := c3) (a' := a3) (m := x) (vs := fs) HC2.out.bnd (by rw [HX.out]) (by rw [Nat.zero_add]; exact hown3) hgrow3
    rw [Nat.zero_add] at h; exact h)
  clear hown3 hgrow3 HZ HZ2 HC2 HSL2 hle2 HA1 HB1 HA2 HB2 B1
  go_wp2_with fail
  refine (HT.out _).mono ?_
  rintro e w4 ⟨a4, rfl, hc4, b4⟩
  have HR4 := Lib.hid (HR3.out.below b4)
  have HC4 := Lib.hid hc4
  have HSL4 := Lib.hid hc4.sl
  have hle4 := HR4.out.le
  clear hc4 b4 HR3
  go_wp2_with (at_builtin; refine wpList_append_any _ rfl (.tmp 25) (.tmp 27) 73 rfl w.heap.size 79 i79 _ 1 2 Try.underlying73 hi79 ha1 ha2 ha3 rfl (by omega) _ x _ rfl HR4.out.row a4 y y (enc16 ft) rfl (by rw [enc16_len, HY.out]; simp) (by rw [HY.out]; exact HSL4.out.src) enc16_one (by unfold maxLen; omega) (by omega) hle4 ?_)
  intro a5 c5 w5 hown5 hgrow5
  have HR5 := Lib.hid (HR4.out.push (c' := c5) (a' := a5) (m := y) (vs := ft) HC4.out.bnd (by rw [HY.out]) hown5 hgrow5)
  clear hown5 hgrow5 HR4 HC4 HSL4 hle4
  go_wp2_with fail
  refine (HE.out _).mono ?_
  rintro e w6 ⟨rfl, b6⟩
  have HR6 := Lib.hid (HR5.out.below b6)
  clear b6 HR5
  go_upto_region 4 with fail
  go_cut [45] (fun v45 wc => v45 = .bool false ∧ Below w.heap.size w wc)
  case first =>
    cases oe with
    | true =>
      go_wp2
      go_meet
      case rel => exact ⟨rfl, HR6.out.bel⟩
    | false =>
      have e2 := H2.out rfl
      subst e2
      go_wp2_with fail
      refine (HST.out _).mono ?_
      rintro e w7 ⟨a7, rfl, hc7, b7⟩
      have hr7 := HR6.out.below b7
      have hsame := ref_same (fs ++ ft).length c5 hc7.sl (hr7.sl (by omega))
      rw [hr7.len, decide_eq_true rfl] at hsame
      rw [hr7.len]
      have HSAME := Lib.hid hsame
      have HR7 := Lib.hid hr7
      clear hsame hr7 hc7 b7
      go_wp2_with fail
      refine HSAME.out.mono ?_
      rintro e w8 ⟨rfl, k8, rfl⟩
      go_wp2
      go_meet
      case rel => exact ⟨rfl, HR7.out.bel.trans (below_drewN HR7.out.le _)⟩
  case rest =>
  obtain ⟨rfl, hb7⟩ := hcut
  have hz7 := R16.zero hb7 hb7.size
  have HZ7 := Lib.hid hz7
  have HA7 := Lib.hid (HA.out.below hz7.bel)
  have hle7 := hz7.le
  clear hz7 hb7
  go_wp2_with (at_builtin; refine wpList_append_any _ rfl (.tmp 46) (.tmp 47) 73 rfl w.heap.size 79 i79 _ 1 2 Try.underlying73 hi79 ha1 ha2 ha3 rfl (by omega) _ 0 [] rfl HZ7.out.row a n ca (enc16 us) rfl (by rw [enc16_len, HN.out]; simp) (by rw [HN.out]; exact HA7.out.src) enc16_one (by unfold maxLen; omega) (by omega) hle7 ?_)
  intro a8 c8 w8 hown8 hgrow8
  have HR8 : Hid (R16 w.heap.size w w8 a8 n c8 us) := Lib.hid (by
    have h := HZ7.out.push (c' := c8) (a' := a8) (m := n) (vs := us) HA.out.bnd (by rw [HN.out]) (by rw [Nat.zero_add]; exact hown8) hgrow8
    rw [Nat.zero_add] at h; exact h)
  have HB8 := Lib.hid (HB.out.below HR8.out.bel)
  have hle8 := HR8.out.le
  clear hown8 hgrow8 HZ7 HA7
  go_wp2_with (at_builtin; refine wpList_append_any _ rfl (.tmp 48) (.tmp 49) 73 rfl w.heap.size 79 i79 _ 1 2 Try.underlying73 hi79 ha1 ha2 ha3 rfl (by omega) _ n _ rfl HR8.out.row b m cb (enc16 vs) rfl (by rw [enc16_len, HM.out]; simp) (by rw [HM.out]; exact HB8.out.src) enc16_one (by unfold maxLen; omega) (by omega) hle8 ?_)
  intro a9 c9 w9 hown9 hgrow9
  have HR9 := Lib.hid (HR8.out.push (c' := c9) (a' := a9) (m := m) (vs := vs) HB.out.bnd (by rw [HM.out]) hown9 hgrow9)
  clear hown9 hgrow9 HR8 HB8 hle8
  obtain ⟨uv, huv⟩ : ∃ uv, uv = us ++ vs := ⟨_, rfl⟩
  rw [← huv] at HR9 HOR HTJ
  have HUV := Lib.hid huv
  clear huv
  go_wp2_with fail
  go_loopw [13, 14] (fun v13 v14 wr => ∃ k : Nat, k ≤ n + m ∧ v13 = .bool ((uv.take k).any half16) ∧ v14 = .int .i64 (k : Nat) ∧ w9 = wr) (fun _ v _ => n + m - (intOf v).toNat)
  case atStart => exact ⟨0, Nat.zero_le _, rfl, rfl, rfl⟩
  case round =>
    obtain ⟨k, hk, rfl, rfl, rfl⟩ := hrel
    by_cases hlt : k < n + m
    · have p1 : (k : Int) < (n : Int) + (m : Int) := by omega
      obtain ⟨z, hz⟩ : ∃ z, uv[k]? = some z := ⟨_, List.getElem?_eq_getElem (by rw [HR9.out.len]; exact hlt)⟩
      have hnext := any_take hz
      obtain ⟨hzb, bb, off, rfl, hbb, hc⟩ := (HR9.out.sl (by omega)).at_ k z hz
      generalize hfl : (uv.take k).any half16 = fl at hnext
      have HNX := Lib.hid hnext
      clear hnext hfl hz
      cases fl with
      | true =>
        go_wp2
        go_roundw
        case rel => exact ⟨k + 1, hlt, by rw [HNX.out]; rfl, by go_num, trivial⟩
        case measure => simp [intOf]; omega
      | false =>
        by_cases h1 : 55296 ≤ z
        · have p2 : (55296 : Int) ≤ (z : Int) := by omega
          by_cases h2 : z < 57344
          · have p3 : (z : Int) < 57344 := by omega
            go_wp2
            go_roundw
            case rel => exact ⟨k + 1, hlt, by rw [HNX.out]; simp [half16, h1, h2], by go_num, trivial⟩
            case measure => simp [intOf]; omega
          · have p3 : ¬ (z : Int) < 57344 := by omega
            go_wp2
            go_roundw
            case rel => exact ⟨k + 1, hlt, by rw [HNX.out]; simp [half16, h1, h2], by go_num, trivial⟩
            case measure => simp [intOf]; omega
        · have p2 : ¬ (55296 : Int) ≤ (z : Int) := by omega
          go_wp2
          go_roundw
          case rel => exact ⟨k + 1, hlt, by rw [HNX.out]; simp [half16, h1], by go_num, trivial⟩
          case measure => simp [intOf]; omega
    · have p1 : ¬ (k : Int) < (n : Int) + (m : Int) := by omega
      have hka : (uv.take k).any half16 = uv.any half16 := by rw [List.take_of_length_le (by rw [HR9.out.len]; omega)]
      rw [hka]
      obtain ⟨hf, hfe⟩ : ∃ hf, hf = uv.any half16 := ⟨_, rfl⟩
      rw [← hfe] at HOR ⊢
      clear hka hfe
      go_upto_region 12 with fail
      have B9 := Lib.hid HR9.out.bel
      have HA9 := Lib.hid (HA.out.below HR9.out.bel)
      go_cut [15] (fun v15 wc => ∃ f : Bool, v15 = .bool f ∧ Hid (f = false → ∀ x, us.getLast? = some x → ¬ (55296 ≤ x ∧ x < 56320)) ∧ w9 = wc)
      case first =>
        by_cases hn0 : n = 0
        · have hnil : us = [] := List.length_eq_zero_iff.1 (by rw [← HN.out]; exact hn0)
          have hfact : Hid (false = false → ∀ x, us.getLast? = some x → ¬ (55296 ≤ x ∧ x < 56320)) := Lib.hid (fun _ x hx => by rw [hnil] at hx; cases hx)
          have p2 : ¬ (0 : Int) < (n : Int) := by omega
          clear hnil hn0
          go_wp2
          go_meet
          case rel => exact ⟨_, rfl, Lib.hid (fun _ => hfact.out (by trivial)), rfl⟩
        · obtain ⟨n', hn'⟩ : ∃ n', n = n' + 1 := ⟨n - 1, by omega⟩
          obtain ⟨z, hz⟩ : ∃ z, us[n']? = some z := ⟨_, List.getElem?_eq_getElem (by rw [← HN.out]; omega)⟩
          have hlast : us.getLast? = some z := by rw [List.getLast?_eq_getElem?, ← HN.out, hn', Nat.add_sub_cancel]; exact hz
          have hfact : Hid (∀ f : Bool, f = decide (55296 ≤ z ∧ z < 56320) → (f = false → ∀ x, us.getLast? = some x → ¬ (55296 ≤ x ∧ x < 56320))) := Lib.hid (fun f hf h0 x hx => by
            rw [hlast] at hx; cases hx; rw [hf] at h0; exact of_decide_eq_false h0)
          obtain ⟨hzb, bb, off, rfl, hbb, hc⟩ := HA9.out.at_ n' z hz
          subst hn'
          clear hlast hz hn0
          by_cases h1 : 55296 ≤ z
          · have p2 : (55296 : Int) ≤ (z : Int) := by omega
            by_cases h2 : z < 56320
            · have p3 : (z : Int) < 56320 := by omega
              go_wp2
              go_meet
              case rel => exact ⟨_, rfl, Lib.hid (hfact.out _ (by simp [h1, h2])), rfl⟩
            · have p3 : ¬ (z : Int) < 56320 := by omega
              go_wp2
              go_meet
              case rel => exact ⟨_, rfl, Lib.hid (hfact.out _ (by simp [h1, h2])), rfl⟩
          · have p2 : ¬ (55296 : Int) ≤ (z : Int) := by omega
            go_wp2
            go_meet
            case rel => exact ⟨_, rfl, Lib.hid (hfact.out _ (by simp [h1])), rfl⟩
      case rest =>
      obtain ⟨f, rfl, hf15, rfl⟩ := hcut
      go_upto_region 13 with fail
      go_cut [104] (fun v104 wc => v104 = .bool false ∧ R16 w.heap.size w wc a9 (n + m) c9 uv)
      case first =>
        cases f with
        | true =>
          go_wp2
          go_meet
          case rel => exact ⟨rfl, HR9.out⟩
        | false =>
          have hj := HTJ.out (hf15.out rfl)
          have htw := fun w' (h : R16 w.heap.size w w' a9 (n + m) c9 uv) => text_calls w' c9 (h.sl (by omega)) (by rw [h.len]; omega)
          rw [hj, HR9.out.len] at htw
          have HTW := Lib.hid htw
          clear htw hj
          go_wp2_with fail
          refine (HTW.out _ HR9.out).mono ?_
          rintro e w10 ⟨rfl, b10⟩
          have HR10 := Lib.hid (HR9.out.below b10)
          clear b10
          go_wp2_with fail
          refine (HTU.out _ HR10.out.bel).mono ?_
          rintro e w11 ⟨rfl, b11⟩
          have HR11 := Lib.hid (HR10.out.below b11)
          clear b11
          go_wp2_with fail
          refine (HTV.out _ HR11.out.bel).mono ?_
          rintro e w12 ⟨rfl, b12⟩
          have HR12 := Lib.hid (HR11.out.below b12)
          clear b12
          go_wp2
          go_meet
          case rel => exact ⟨rfl, HR12.out⟩
      case rest =>
      obtain ⟨rfl, hr12⟩ := hcut
      have HR12 := Lib.hid hr12
      clear hr12 hf15 HR9 HA9 B9
      go_wp2_with fail
      refine (HCM.out _ HR12.out.bel).mono ?_
      rintro e w13 ⟨rfl, rfl⟩
      go_wp2_with fail
      refine (HTU.out _ HR12.out.bel).mono ?_
      rintro e w14 ⟨rfl, b14⟩
      have HR14 := Lib.hid (HR12.out.below b14)
      clear b14 HR12
      go_wp2_with fail
      refine (HTV.out _ HR14.out.bel).mono ?_
      rintro e w15 ⟨rfl, b15⟩
      have HR15 := Lib.hid (HR14.out.below b15)
      clear b15 HR14
      have hord : ∃ ord : Int, ((Op.bytesLess tU.toList tV.toList = true ∧ ord = -1) ∨ (Op.bytesLess tU.toList tV.toList = false ∧ (tU.toList == tV.toList) = true ∧ ord = 0) ∨ (Op.bytesLess tU.toList tV.toList = false ∧ (tU.toList == tV.toList) = false ∧ ord = 1)) ∧ (hf = true ∨ ord = c) := by
        have h1 := HOR.out
        have h2 := HWY.out
        generalize Op.bytesLess tU.toList tV.toList = L at h1 ⊢
        generalize (tU.toList == tV.toList) = E at h1 ⊢
        cases hf with
        | true => cases L <;> cases E <;> simp
        | false =>
          obtain ⟨rfl, rfl⟩ := h1 rfl
          refine ⟨c, ?_, .inr rfl⟩
          rcases h2 with ⟨rfl, _⟩ | ⟨rfl, _⟩ | ⟨rfl, _⟩ <;> simp
      obtain ⟨ord, hLE, hoc⟩ := hord
      have HOC := Lib.hid hoc
      clear hoc
      go_upto_if 114 with fail
      go_cut [19] (fun v19 wc => v19 = .int .i64 ord ∧ w15 = wc)
      case first =>
        rcases hLE with ⟨hL, rfl⟩ | ⟨hL, hE, rfl⟩ | ⟨hL, hE, rfl⟩
        · go_wp2
          all_goals first | (exfalso; rename_i hx; simp [hL] at hx; done) | (go_meet; case rel => exact ⟨rfl, rfl⟩)
        · go_wp2
          all_goals first | (exfalso; rename_i hx; simp [hL] at hx; done) | (go_meet; case rel => exact ⟨rfl, rfl⟩)
        · go_wp2
          all_goals first | (exfalso; rename_i hx; simp [hL] at hx; done) | (go_meet; case rel => exact ⟨rfl, rfl⟩)
      case rest =>
      obtain ⟨rfl, rfl⟩ := hcut
      clear hLE HOR HTJ HTU HTV
      have hcw : m ≠ 0 → ∀ k, Calls Try.prog 40 #[.slice a n ca, .slice a9 (n + m) c9] (w15.drewN k) fun e w'' => e = .returned (.int .i64 (-1)) ∧ w15.drewN k = w'' := fun h0 k => by
        have hw := wide_compare ca c9 ((HA.out.below HR15.out.bel).drewN k) ((HR15.out.sl (by omega)).drewN k)
        rw [HR15.out.len, ← HN.out, HUV.out, cmp16_more us vs (fun e => h0 (by rw [HM.out, e]; rfl))] at hw
        exact hw
      have HCW := Lib.hid hcw
      have HWY2 := HWY.out
      clear hcw HWY
      rcases HWY2 with ⟨rfl, rfl, rfl⟩ | ⟨rfl, rfl, rfl⟩ | ⟨rfl, rfl, rfl⟩
      all_goals
        rcases HOC.out with rfl | rfl
      all_goals
        clear HOC
        by_cases hm0 : m = 0
      all_goals
        try have q0 : ((m : Int) == 0) = true := by simp; omega
        try have q0 : ((m : Int) == 0) = false := by simp; omega
        try cases hf
      all_goals
        have HM0 := Lib.hid hm0
        clear hm0
        go_wp2_with fail
        refine (HSM.out _ HR15.out.bel).mono ?_
        rintro e w16 ⟨rfl, k16, rfl⟩
        go_wp2_with fail
        refine (HCR.out _ (HR15.out.bel.trans (below_drewN HR15.out.le _))).mono ?_
        rintro e w17 ⟨rfl, rfl⟩
        first
        | (have hne : m ≠ 0 := HM0.out
           clear hne
           go_wp2_with fail
           refine (HCW.out HM0.out _).mono ?_
           rintro e w18 ⟨rfl, rfl⟩
           go_wp2
           go_ret
           exact ⟨rfl, HR15.out.bel.trans (below_drewN HR15.out.le _)⟩)
        | (go_wp2
           go_ret
           exact ⟨rfl, HR15.out.bel.trans (below_drewN HR15.out.le _)⟩)
end Go.Proofs.Ytlmbpbijhhnhpaa
