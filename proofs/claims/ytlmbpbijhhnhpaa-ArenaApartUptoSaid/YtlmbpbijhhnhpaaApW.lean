/- The walk of ArenaApart's function: from things, texts and numbers that lie in memory, at most 1,048,576 things and texts: it answers true. -/
import Derived.Test.YtlmbpbijhhnhpaaApD
import Derived.Deep.DeepCutAuto
import Derived.Deep.CutBlock
import Derived.Lib.Builder
namespace Go.Proofs.Ytlmbpbijhhnhpaa
open Go.RowKit
set_option linter.unusedVariables false
set_option maxRecDepth 100000
attribute [local go_sem] run_store_float

theorem ap_info39 : (Try.prog.info? 39).map (fun i => (i.zero, i.size, i.bytes)) = some (some (.agg #[.int .u32 0, .int .u32 0]), 2, 8) := by kernel_rfl

theorem ap_under47 : Try.prog.underlying 47 = some (.pointer 3) := by kernel_rfl
theorem ap_info3 : (Try.prog.info? 3).map (fun i => (i.zero, i.size, i.bytes)) = some (some (.int .i64 0), 1, 8) := by kernel_rfl
theorem ap_neq47 (a : Addr) (w : World) : (binOp .neq 47 (.pointer (some a)) (.pointer (some a))).run Try.prog w = .ok (.bool false) w := by
  obtain ⟨j, hj, _⟩ := info_parts ap_info3
  exact Lib.run_neq_ptr_same w a ap_under47 hj
attribute [local go_sem] ap_neq47

set_option maxHeartbeats 4000000 in
theorem apart_walk (w : World) (L : List Thg) (X : List ByteArray) (F : List Int) (la xa fa : Option Addr) (lc xc fc : Nat) (hL : L.length ≤ 1048576) (hX : X.length ≤ 1048576) (hF : F.length ≤ 9223372036854775807)
    (cL : ∀ (i : Nat) t, L[i]? = some t → t.Ok ∧ ∃ b off, la = some ⟨b, off, none⟩ ∧ b < w.heap.size ∧ ∀ j v, t.cells[j]? = some v → w.cell? ⟨b, off + (i * 3 + j), none⟩ = some v)
    (cX : ∀ (i : Nat) x, X[i]? = some x → ∃ b off, xa = some ⟨b, off, none⟩ ∧ b < w.heap.size ∧ w.cell? ⟨b, off + i, none⟩ = some (.string x))
    (cF : ∀ (i : Nat) z, F[i]? = some z → (-9223372036854775808 ≤ z ∧ z ≤ 9223372036854775807) ∧ ∃ b off, fa = some ⟨b, off, none⟩ ∧ b < w.heap.size ∧ w.cell? ⟨b, off + i, none⟩ = some (.int .i64 z)) :
    Calls Try.prog 3 #[.slice la L.length lc, .slice xa X.length xc, .slice fa F.length fc] w fun e w' => e = .returned (.bool true) ∧ Below w.heap.size w w' := by
  have CL := Lib.hid cL
  have CX := Lib.hid cX
  have CF := Lib.hid cF
  clear cL cX cF
  obtain ⟨n, hn⟩ : ∃ n, n = L.length := ⟨_, rfl⟩
  obtain ⟨m, hm⟩ : ∃ m, m = X.length := ⟨_, rfl⟩
  obtain ⟨f, hf⟩ : ∃ f, f = F.length := ⟨_, rfl⟩
  rw [← hn, ← hm, ← hf]
  rw [← hn] at hL
  rw [← hm] at hX
  rw [← hf] at hF
  have HN := Lib.hid hn
  have HM := Lib.hid hm
  have HFL := Lib.hid hf
  clear hn hm hf
  go_enter Try.func3, Try.ntmps3
  go_wp2_with fail
  refine (awake_true _).mono ?_
  rintro e w1 ⟨rfl, b1⟩
  have B1 := Lib.hid b1
  clear b1
  have q1 : IntKind.i64.wrap ((n : Int) + 1) = (n : Int) + 1 := IntWalk.i64_in _ (by omega)
  go_wp2_with fail
  refine (arTh_new (n + 1) 1 w.heap.size w1 B1.out.size (by omega) (by omega) (by omega) (by omega)).mono ?_
  rintro e w2 ⟨rfl, a2, b2⟩
  have A2 := Lib.hid a2
  have B2 := Lib.hid (B1.out.trans (b2.mono B1.out.size))
  have l2 := lt_of_some a2.blk
  obtain ⟨ab, hab⟩ : ∃ ab, ab = w1.heap.size := ⟨_, rfl⟩
  rw [← hab] at A2 l2 ⊢
  clear a2 b2 B1 hab
  go_wp2_with fail
  refine (arS_new 2147483647 4294967295 w.heap.size w2 B2.out.size (by omega) (by omega) (by omega) (by omega)).mono ?_
  rintro e w3 ⟨rfl, a3, b3⟩
  have H3 : Ap w.heap.size w ab w2.heap.size (apA L 0) (apS X 0) 0 (.slice none 0 0) w3 :=
    ⟨⟨_, by have h := A2.out.below b3; rw [HN.out] at h; simpa [apA, Ar.new] using h⟩, ⟨_, by simpa [apS, Ar.new] using a3⟩, World.ownsRow_nil _ _ _ _, B2.out.trans (b3.mono B2.out.size), Nat.le_trans B2.out.size b3.size⟩
  have H := Lib.hid H3
  obtain ⟨bb, hbb⟩ : ∃ bb, bb = w2.heap.size := ⟨_, rfl⟩
  rw [← hbb] at H ⊢
  clear a3 b3 B2 A2 H3 hbb l2
  go_upto_block 0 with (fail)
  go_cut [12] (fun v12 wc => Ap w.heap.size w ab bb (apA L n) (apS X 0) n v12 wc)
  case first =>
    as_aux_lemma =>
      refine wp_block ?_
      go_loopw [12, 13] (fun v12 v13 wr => ∃ i : Nat, i ≤ n ∧ v13 = .int .i64 (i : Nat) ∧ Ap w.heap.size w ab bb (apA L i) (apS X 0) i v12 wr) (fun _ v _ => n - (intOf v).toNat)
      case atStart => exact ⟨0, Nat.zero_le _, rfl, H.out⟩
      case round =>
        obtain ⟨i, hi, rfl, hI⟩ := hrel
        have HI := Lib.hid hI
        clear hI
        by_cases hlt : i < n
        · obtain ⟨t, ht⟩ : ∃ t, L[i]? = some t := ⟨_, List.getElem?_eq_getElem (by rw [← HN.out]; exact hlt)⟩
          obtain ⟨ok, b, off, rfl, hb, hc⟩ := CL.out i t ht
          have hbw : b < wr.heap.size := Nat.lt_of_lt_of_le hb HI.out.bel.size
          have c0 := (HI.out.bel.cell (p := ⟨b, off + (i * 3 + 0), none⟩) hb).trans (hc 0 _ rfl)
          have c1 := (HI.out.bel.cell (p := ⟨b, off + (i * 3 + 1), none⟩) hb).trans (hc 1 _ rfl)
          have c2 := (HI.out.bel.cell (p := ⟨b, off + (i * 3 + 2), none⟩) hb).trans (hc 2 _ rfl)
          simp only [← Nat.add_assoc, Nat.add_zero] at c0 c1 c2
          have HT := Lib.hid ht
          have HOK := Lib.hid ok
          have p1 : (i : Int) < (n : Int) := by omega
          have q2 : IntKind.i64.wrap ((i : Int) + 1) = (i : Int) + 1 := IntWalk.i64_in _ (by omega)
          clear ht ok hc
          go_wp2_with fail
          obtain ⟨av, ha⟩ := HI.out.a
          have hlen := apA_all_length (L := L) (i := i) (by rw [← HN.out]; exact hi)
          refine (arTh_alloc_grow ha t.xs t.xa t.xn t.xc t.xf rfl (by rw [hlen]; show i < L.length + 1; rw [← HN.out]; omega)).mono ?_
          rintro e w4 ⟨av', rfl, ha4, f4⟩
          rw [show [Value.string t.xs, .slice t.xa t.xn t.xc, .float .f64 t.xf] = t.cells from rfl, apA_succ HT.out] at ha4
          rw [hlen]
          have H4 := Lib.hid (HI.out.things ha4 f4)
          clear ha ha4 f4 c0 c1 c2 hlen HI
          obtain ⟨i39, hi39, ha1, ha2, ha3⟩ := info_parts ap_info39
          obtain ⟨ua, uc, rfl⟩ : ∃ ua uc, u12 = .slice ua i uc := by
            rcases H4.out.row.2 with ⟨rfl, hn⟩ | ⟨g, cap, cur, rfl, _⟩
            · exact ⟨none, 0, by rw [hn]⟩
            · exact ⟨_, cap, rfl⟩
          have x4 : (w4.alloc (.cells #[.int .u32 ((i : Int) + 1), .int .u32 1] 39)).heap[w4.heap.size]? = some (.cells #[.int .u32 ((i : Int) + 1), .int .u32 1] 39 (0, 0)) := Go.heap_alloc_new w4 _
          have h5 := H4.out.alloc (.cells #[.int .u32 ((i : Int) + 1), .int .u32 1] 39)
          go_upto_region 11 with (fail)
          generalize (w4.alloc (.cells #[.int .u32 ((i : Int) + 1), .int .u32 1] 39)) = W5 at x4 h5 ⊢
          obtain ⟨b14, hb14⟩ : ∃ b14, b14 = w4.heap.size := ⟨_, rfl⟩
          rw [← hb14] at x4 ⊢
          have y0 := cell_blk x4 0 rfl
          have y1 := cell_blk x4 1 rfl
          simp at y0 y1
          have H5 := Lib.hid h5
          have hB5 := h5.le
          have hrow := h5.row
          clear h5 x4 hb14 H4
          go_wp2_with (at_builtin; refine wpList_append_lies _ rfl (.tmp 88) (.tmp 90) 36 rfl w.heap.size 39 i39 _ 2 8 Try.underlying36 hi39 ha1 ha2 ha3 rfl (by omega) (.slice ua i uc) i _ rfl (hrow.alloc _) ⟨W5.heap.size, 0, none⟩ 1 1 [.int .u32 ((i : Int) + 1), .int .u32 1] rfl rfl (World.news_of_block (cs := #[.int .u32 ((i : Int) + 1), .int .u32 1]) (t := 39) (fr := (0, 0)) (Go.heap_alloc_new W5 _)) (by simp [Value.oneCell']) (by omega) (by unfold maxLen; omega) (by omega) (by simp; omega) (W5.heap.size + 1) (by simp) ?_)
          intro ga capa wa owna growa ata lta
          have H6 := Lib.hid ((H5.out.alloc (.cells #[.int .u32 ((i : Int) + 1), .int .u32 1] 39)).told growa owna)
          clear hrow growa owna ata lta H5 y0 y1 hB5
          go_wp2
          go_roundw
          case rel => exact ⟨i + 1, hlt, by go_num, H6.out⟩
          case measure => simp [intOf]; omega
        · go_wp2
          go_meet
          case rel =>
            obtain rfl : i = n := by omega
            exact HI.out
  case rest =>
    obtain ⟨ua, uc, rfl⟩ : ∃ ua uc, u12 = .slice ua n uc := by
      rcases hcut.row.2 with ⟨rfl, hn⟩ | ⟨g, cap, cur, rfl, _⟩
      · exact ⟨none, 0, by rw [hn]⟩
      · exact ⟨_, cap, rfl⟩
    have H1 := Lib.hid hcut
    clear hcut H
    go_upto_block 2 with (fail)
    go_cut [12] (fun v12 wc => v12 = .slice ua n uc ∧ Ap w.heap.size w ab bb (apA L n) (apS X m) n (.slice ua n uc) wc)
    case first =>
      as_aux_lemma =>
        refine wp_block ?_
        go_loopw [16] (fun v wr => ∃ i : Nat, i ≤ m ∧ v = .int .i64 (i : Nat) ∧ Ap w.heap.size w ab bb (apA L n) (apS X i) n (.slice ua n uc) wr) (fun v _ => m - (intOf v).toNat)
        case atStart => exact ⟨0, Nat.zero_le _, rfl, H1.out⟩
        case round =>
          obtain ⟨i, hi, rfl, hI⟩ := hrel
          have HI := Lib.hid hI
          clear hI
          by_cases hlt : i < m
          · obtain ⟨x, hx⟩ : ∃ x, X[i]? = some x := ⟨_, List.getElem?_eq_getElem (by rw [← HM.out]; exact hlt)⟩
            obtain ⟨b, off, rfl, hb, hc⟩ := CX.out i x hx
            have hbw : b < wr.heap.size := Nat.lt_of_lt_of_le hb HI.out.bel.size
            have c0 := (HI.out.bel.cell (p := ⟨b, off + i, none⟩) hb).trans hc
            have HXX := Lib.hid hx
            have p1 : (i : Int) < (m : Int) := by omega
            have q2 : IntKind.i64.wrap ((i : Int) + 1) = (i : Int) + 1 := IntWalk.i64_in _ (by omega)
            have HCX := Lib.hid hc
            clear hx hc
            go_wp2_with fail
            obtain ⟨av, ha⟩ := HI.out.s
            have hlen := apS_all_length (X := X) (i := i) (by rw [← HM.out]; exact hi)
            refine (arS_alloc_grow ha x rfl (by rw [hlen]; show i < 2147483647; omega)).mono ?_
            rintro e w4 ⟨av', rfl, ha4, f4⟩
            rw [apS_succ HXX.out] at ha4
            rw [hlen]
            have h4 := HI.out.texts ha4 f4
            have H4 := Lib.hid h4
            have c4 := (h4.bel.cell (p := ⟨b, off + i, none⟩) hb).trans HCX.out
            have h5 := h4.alloc (.cells #[.int .u32 ((i : Int) + 1), .int .u32 1] 39)
            have hk := apS_at HXX.out
            obtain ⟨av5, ha5⟩ := h5.s
            obtain ⟨gb, cap, rfl⟩ := ha5.head hk
            have hbw4 : b < w4.heap.size := Nat.lt_of_lt_of_le hb h4.bel.size
            have H5 := Lib.hid h5
            have x4 : (w4.alloc (.cells #[.int .u32 ((i : Int) + 1), .int .u32 1] 39)).heap[w4.heap.size]? = some (.cells #[.int .u32 ((i : Int) + 1), .int .u32 1] 39 (0, 0)) := Go.heap_alloc_new w4 _
            have X4 := Lib.hid x4
            have HA5 := Lib.hid ha5
            have HK := Lib.hid hk
            clear ha ha4 f4 c0 hlen HI h4 h5 H4 ha5 hk x4
            go_wp2_with fail
            refine (arS_get_live HA5.out i 1 _ HK.out).mono ?_
            rintro e w6 ⟨rfl, b6⟩
            have h6 := H5.out.below b6
            have f6 : FrT [] 0 _ w6 := FrT.of_below b6
            have x6 := f6.blk X4.out (by simp)
            have y0 := cell_blk x6 0 rfl
            simp at y0
            have c6 := (h6.bel.cell (p := ⟨b, off + i, none⟩) hb).trans HCX.out
            have H6 := Lib.hid h6
            clear b6 h6 f6 x6 X4 H5 HA5 HK c4
            go_wp2
            go_roundw
            case rel => exact ⟨i + 1, hlt, by go_num, H6.out⟩
            case measure => simp [intOf]; omega
          · go_wp2
            go_meet
            case rel =>
              obtain rfl : i = m := by omega
              exact ⟨rfl, HI.out⟩
    case rest =>
      obtain ⟨rfl, h2⟩ := hcut
      have H2 := Lib.hid h2
      clear h2 H1
      go_upto_block 4 with (fail)
      go_cut [12] (fun v12 wc => v12 = .slice ua n uc ∧ Ap w.heap.size w ab bb (apA L n) (apS X m) n (.slice ua n uc) wc)
      case first =>
        as_aux_lemma =>
          refine wp_block ?_
          go_loopw [21] (fun v wr => ∃ i : Nat, i ≤ n ∧ v = .int .i64 (i : Nat) ∧ Ap w.heap.size w ab bb (apA L n) (apS X m) n (.slice ua n uc) wr) (fun v _ => n - (intOf v).toNat)
          case atStart => exact ⟨0, Nat.zero_le _, rfl, H2.out⟩
          case round =>
            obtain ⟨i, hi, rfl, hI⟩ := hrel
            have HI := Lib.hid hI
            clear hI
            by_cases hlt : i < n
            · obtain ⟨t, ht⟩ : ∃ t, L[i]? = some t := ⟨_, List.getElem?_eq_getElem (by rw [← HN.out]; exact hlt)⟩
              obtain ⟨xs, ya, yn, yc, yf⟩ := t
              obtain ⟨ok, b, off, rfl, hb, hc⟩ := CL.out i _ ht
              obtain ⟨hs, rfl⟩ : ∃ g, ua = some ⟨g, 0, none⟩ := by
                rcases HI.out.row.2 with ⟨h', hn⟩ | ⟨g, cap, cur, h', _⟩
                · omega
                · simp at h'; exact ⟨g, h'.1⟩
              obtain ⟨e0, e1⟩ := hcells_at (hl_at hlt)
              have d0 := (HI.out.row.cellAt (i * 2) (by omega)).trans e0
              have d1 := (HI.out.row.cellAt (i * 2 + 1) (by omega)).trans e1
              have hk := apA_at ht
              rw [← HN.out] at hk
              obtain ⟨av, ha⟩ := HI.out.a
              obtain ⟨gb, cap, rfl⟩ := ha.head hk
              have c0 := hc 0 _ rfl
              have c1 := hc 1 _ rfl
              have hbw := Nat.lt_of_lt_of_le hb HI.out.bel.size
              simp only [← Nat.add_assoc, Nat.add_zero] at c0 c1
              rw [show (((i + 1, 1) : Nat × Nat).1 : Int) = (i : Int) + 1 by simp] at d0
              rw [show (((i + 1, 1) : Nat × Nat).2 : Int) = 1 by simp] at d1
              have p1 : (i : Int) < (n : Int) := by omega
              have p2 : (0 : Int) ≤ (i : Int) := by omega
              have C0 := Lib.hid c0
              have C1 := Lib.hid c1
              have HA := Lib.hid ha
              have HK := Lib.hid hk
              have ok1 := ok.n
              have ok2 := ok.a
              simp only at ok1 ok2
              clear ht hc e0 e1 c0 c1 ha hk ok
              go_wp2_with fail
              refine (arTh_get_live HA.out i 1 xs ya yn yc yf HK.out).mono ?_
              rintro e w6 ⟨rfl, b6⟩
              have h6 := (HI.out.below b6).alloc (.cells #[.string xs, .slice ya yn yc, .float .f64 yf] 32)
              have x6 : (w6.alloc (.cells #[.string xs, .slice ya yn yc, .float .f64 yf] 32)).heap[w6.heap.size]? = some (.cells #[.string xs, .slice ya yn yc, .float .f64 yf] 32 (0, 0)) := Go.heap_alloc_new w6 _
              go_upto_region 25 with (fail)
              generalize (w6.alloc (.cells #[.string xs, .slice ya yn yc, .float .f64 yf] 32)) = W6 at x6 h6 ⊢
              obtain ⟨b22, hb22⟩ : ∃ b22, b22 = w6.heap.size := ⟨_, rfl⟩
              rw [← hb22] at x6 ⊢
              have y0 := cell_blk x6 0 rfl
              have y1 := cell_blk x6 1 rfl
              simp at y0 y1
              have c0 := (h6.bel.cell (p := ⟨b, off + i * 3, none⟩) hb).trans C0.out
              have c1 := (h6.bel.cell (p := ⟨b, off + i * 3 + 1, none⟩) hb).trans C1.out
              have H6 := Lib.hid h6
              clear b6 h6 x6 hb22 HI HA HK C0 C1
              rcases Nat.eq_zero_or_pos yn with rfl | hpos
              · go_quiet (fail)
                go_wp2
                go_quiet (fail)
                go_wp2
                go_roundw
                case rel => exact ⟨i + 1, hlt, by go_num, H6.out.below (by repeat (first | exact Below.refl _ _ | assumption | refine Below.drew ?_ | refine below_drewN ?_ _ | refine Below.alloc ?_ (by simp <;> omega) _ | refine Below.setCell ?_ (by simp <;> omega) _ | (apply bl_trans; assumption; (simp <;> omega))))⟩
                case measure => simp [intOf]; omega
              · obtain ⟨b2, off2, rfl⟩ : ∃ b2 off2, ya = some ⟨b2, off2, none⟩ := by
                  rcases ok2 with h | h
                  · omega
                  · exact h
                have p3 : (0 : Int) < (yn : Int) := by omega
                clear ok2
                go_quiet (fail)
                go_wp2
                go_quiet (fail)
                go_wp2
                go_roundw
                case rel => exact ⟨i + 1, hlt, by go_num, H6.out.below (by repeat (first | exact Below.refl _ _ | assumption | refine Below.drew ?_ | refine below_drewN ?_ _ | refine Below.alloc ?_ (by simp <;> omega) _ | refine Below.setCell ?_ (by simp <;> omega) _ | (apply bl_trans; assumption; (simp <;> omega))))⟩
                case measure => simp [intOf]; omega
            · go_wp2
              go_meet
              case rel =>
                exact ⟨rfl, HI.out⟩
      case rest =>
        obtain ⟨rfl, h3⟩ := hcut
        have H3 := Lib.hid h3
        clear h3 H2
        go_upto_block 6 with (fail)
        go_cut [24] (fun v24 wc => ∃ (A : Ar) (gone : Nat), v24 = .int .i64 (gone : Nat) ∧ ApF A n gone ∧ Ap w.heap.size w ab bb A (apS X m) n (.slice ua n uc) wc)
        case first =>
          as_aux_lemma =>
            refine wp_block ?_
            go_loopw [24, 25] (fun v24 v wr => ∃ (i : Nat) (A : Ar) (gone : Nat), i ≤ f ∧ v = .int .i64 (i : Nat) ∧ v24 = .int .i64 (gone : Nat) ∧ ApF A n gone ∧ Ap w.heap.size w ab bb A (apS X m) n (.slice ua n uc) wr) (fun _ v _ => f - (intOf v).toNat)
            case atStart => exact ⟨0, apA L n, 0, Nat.zero_le _, rfl, rfl, by have := ApF.start L; rw [← HN.out] at this; exact this, H3.out⟩
            case round =>
              obtain ⟨i, A, gone, hi, rfl, rfl, hF, hI⟩ := hrel
              have HI := Lib.hid hI
              have HF := Lib.hid hF
              clear hI hF
              by_cases hlt : i < f
              · by_cases hn0 : n = 0
                · subst hn0
                  go_wp2
                  go_meet
                  case rel => exact ⟨A, gone, rfl, HF.out, HI.out⟩
                · have hn1 : 0 < n := by omega
                  obtain ⟨z, hz⟩ : ∃ z, F[i]? = some z := ⟨_, List.getElem?_eq_getElem (by rw [← HFL.out]; exact hlt)⟩
                  obtain ⟨hzb, b, off, rfl, hb, hc⟩ := CF.out i z hz
                  have hbw := Nat.lt_of_lt_of_le hb HI.out.bel.size
                  obtain ⟨hs, rfl⟩ : ∃ g, ua = some ⟨g, 0, none⟩ := by
                    rcases HI.out.row.2 with ⟨h', hn⟩ | ⟨g, cap, cur, h', _⟩
                    · omega
                    · simp at h'; exact ⟨g, h'.1⟩
                  have c0 := (HI.out.bel.cell (p := ⟨b, off + i, none⟩) hb).trans hc
                  clear hz hc
                  obtain ⟨k, hk⟩ : ∃ k : Nat, z = -(k : Int) - 1 ∨ z = (k : Int) := by
                    by_cases h : z < 0
                    · exact ⟨(-(z + 1)).toNat, .inl (by omega)⟩
                    · exact ⟨z.toNat, .inr (by omega)⟩
                  obtain ⟨p, hp⟩ : ∃ p, p = k % n := ⟨_, rfl⟩
                  have hpn : p < n := by rw [hp]; exact Nat.mod_lt _ hn1
                  obtain ⟨a, hae⟩ : ∃ a, a = p + 1 := ⟨_, rfl⟩
                  obtain ⟨e0, e1⟩ := hcells_at (hl_at hpn)
                  have d0 := (HI.out.row.cellAt (p * 2) (by omega)).trans e0
                  have d1 := (HI.out.row.cellAt (p * 2 + 1) (by omega)).trans e1
                  rw [show (((p + 1, 1) : Nat × Nat).1 : Int) = (a : Int) by simp [hae]] at d0
                  rw [show (((p + 1, 1) : Nat × Nat).2 : Int) = 1 by simp] at d1
                  rw [hp] at d0 d1
                  have q0 : ((n : Int) == 0) = false := by simp; omega
                  have h0' : 0 < (n : Int) := by omega
                  have hp' : (k : Int) % n < n := by omega
                  have p1 : (i : Int) < (f : Int) := by omega
                  have p2 : (0 : Int) ≤ (i : Int) := by omega
                  have hsum := HF.out.sum HI.out.a.choose_spec.ok
                  have e2 : -(-(k : Int) - 1 + 1) = k := by omega
                  have HP := Lib.hid hp
                  have HAE := Lib.hid hae
                  clear e0 e1 hp hae
                  rcases hk with rfl | rfl
                  all_goals
                    go_wp2_with fail
                    obtain ⟨av, ha⟩ := HI.out.a
                    rcases HF.out.slot hpn with ⟨t, ht⟩ | hdead
                    · obtain ⟨gb, cap, rfl⟩ := ha.head ht
                      rw [show (a : Int) = (p : Int) + 1 by have := HAE.out; omega]
                      refine (arTh_free_last ha p 1 t.xs t.xa t.xn t.xc t.xf ht (by rw [HF.out.G]; exact Nat.le_refl _)).mono ?_
                      rintro e w7 ⟨rfl, ha7, f7⟩
                      have H7 := Lib.hid (HI.out.things ha7 f7)
                      have HF7 := Lib.hid (HF.out.freed p)
                      clear ha ht ha7 f7 HI HF c0 d0 d1
                      go_wp2
                      go_roundw
                      case rel => exact ⟨i + 1, _, gone + 1, hlt, by go_num, by go_num, HF7.out, H7.out⟩
                      case measure => simp [intOf]; omega
                    · refine (arTh_free_dead ha a 1 (by have := HAE.out; omega) (by omega) (by rw [HAE.out]; exact hdead)).mono ?_
                      rintro e w7 ⟨rfl, b7⟩
                      have H7 := Lib.hid (HI.out.below b7)
                      clear ha hdead b7 HI c0 d0 d1
                      go_wp2
                      go_roundw
                      case rel => exact ⟨i + 1, A, gone, hlt, by go_num, rfl, HF.out, H7.out⟩
                      case measure => simp [intOf]; omega
              · go_wp2
                go_meet
                case rel => exact ⟨A, gone, rfl, HF.out, HI.out⟩
        case rest =>
          obtain ⟨A, gone, rfl, hF, hI⟩ := hcut
          obtain ⟨av, ha⟩ := hI.a
          obtain ⟨sv, hs⟩ := hI.s
          have hsum := hF.sum ha.ok
          have hS := hF.S
          have hR := hF.ret
          have H := Lib.hid hI
          have HF := Lib.hid hF
          clear hI hF H3 ha hs
          go_wp2_with fail
          obtain ⟨av, ha⟩ := H.out.a
          refine (arTh_retired ha).mono ?_
          rintro e w7 ⟨rfl, b7⟩
          rw [hR]
          have H7 := Lib.hid (H.out.below b7)
          clear ha b7 H
          go_wp2_with fail
          obtain ⟨av, ha⟩ := H7.out.a
          refine (arTh_count ha).mono ?_
          rintro e w8 ⟨rfl, b8⟩
          have H8 := Lib.hid (H7.out.below b8)
          have q3 : (n : Int) - gone = (A.count : Int) := by omega
          have q4 : IntKind.i64.wrap ((n : Int) - gone) = (A.count : Int) := by rw [q3]; exact IntWalk.i64_in _ (by omega)
          clear ha b8 H7
          go_wp2_with fail
          obtain ⟨av, ha⟩ := H8.out.a
          refine (arTh_left ha).mono ?_
          rintro e w9 ⟨rfl, b9⟩
          rw [show (A.S : Int) - A.count - A.ret = 1 by omega]
          have H9 := Lib.hid (H8.out.below b9)
          clear ha b9 H8
          go_wp2_with fail
          obtain ⟨av, ha⟩ := H9.out.s
          refine (arS_count ha).mono ?_
          rintro e w10 ⟨rfl, b10⟩
          have H10 := Lib.hid (H9.out.below b10)
          rw [show ((apS X m).count : Int) = (m : Int) from rfl]
          clear ha b10 H9
          go_wp2_with fail
          obtain ⟨av, ha⟩ := H10.out.s
          refine (arS_retired ha).mono ?_
          rintro e w11 ⟨rfl, b11⟩
          have H11 := Lib.hid (H10.out.below b11)
          rw [show ((apS X m).ret : Int) = 0 from rfl]
          clear ha b11 H10
          go_wp2
          go_ret
          exact ⟨rfl, H11.out.bel⟩
end Go.Proofs.Ytlmbpbijhhnhpaa
