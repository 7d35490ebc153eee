/- The document's From. -/
import Derived.Test.YtlmbpbijhhnhpaaWd24
namespace Go.Proofs.Ytlmbpbijhhnhpaa
open Go.RowKit
set_option linter.unusedVariables false
set_option maxRecDepth 100000

theorem PcI.keep {w0 w w' : World} {l : List Pc} {v : Value} (h : PcI w0 l v w) {T : List TypeId} {B : Nat} (f : FrT T B w w') (h1 : 86 ∉ T) (h2 : w0.heap.size ≤ B) : PcI w0 l v w' :=
  ⟨f.row h.row h1, h.bel.trans ((f.mono (fun _ h => h) h2).below h.le), Nat.le_trans h.le f.size⟩
structure FmI (w0 : World) (l : List Pc) (uv : Value) (us : List Nat) (v : Value) (w : World) : Prop where
  un : PcI w0 l uv w
  row : w.ownsRow w0.heap.size 79 1 v us.length (enc16 us)
theorem fromPc_take {l : List Pc} {k : Nat} {x : Pc} (h : l[k]? = some x) : fromPc (l.take (k + 1)) = fromPc (l.take k) ++ unitsOf x.c := by
  rw [List.take_add_one, h]
  simp [fromPc]
theorem fromPc_le (s : ByteArray) : ∀ u ∈ fromPc (pcs s), u ≤ 65535 := by
  intro u hu
  obtain ⟨x, hx, hux⟩ := List.mem_flatMap.1 hu
  obtain ⟨l1, l2, h⟩ := List.append_of_mem hx
  have hc := pcs_c h
  unfold unitsOf at hux
  split at hux <;> simp at hux <;> omega

set_option maxHeartbeats 4000000 in
theorem ref_from (s : ByteArray) (hs : s.size ≤ 1099511627776) (w : World) :
    Calls Try.prog 47 #[.string s] w fun e w' => ∃ a cap, e = .returned (.slice a (fromPc (pcs s)).length cap) ∧ Sl16 w' a (fromPc (pcs s)) ∧ w'.ownsRow w.heap.size 79 1 (.slice a (fromPc (pcs s)).length cap) (fromPc (pcs s)).length (enc16 (fromPc (pcs s))) ∧ Below w.heap.size w w' := by
  obtain ⟨i79, hi79, ha1, ha2, ha3⟩ := info_parts info79
  go_enter Try.func47, Try.ntmps47
  go_wp2_with fail
  refine (ref_pieces s hs _).mono ?_
  rintro e w1 ⟨uv, rfl, hU⟩
  have hul := pcs_len s
  obtain ⟨ua, uc, rfl⟩ := rwSlice hU.row
  obtain ⟨M, hM⟩ : ∃ M, M = (pcs s).length := ⟨_, rfl⟩
  have HM := Lib.hid hM
  have hMl : M ≤ 1099511627776 := by omega
  rw [← hM] at hU ⊢
  have HU0 := Lib.hid hU
  clear hU hul hM
  go_wp2_with fail
  go_loopw [4, 5] (fun v vi wr => ∃ k : Nat, k ≤ M ∧ vi = .int .i64 (k : Nat) ∧ FmI w (pcs s) (.slice ua M uc) (fromPc ((pcs s).take k)) v wr) (fun _ v _ => M - (intOf v).toNat)
  case atStart => exact ⟨0, Nat.zero_le _, rfl, HU0.out, World.ownsRow_nil _ _ _ _⟩
  case round =>
    obtain ⟨k, hk, rfl, hI⟩ := hrel
    have HI := Lib.hid hI
    by_cases hlt : k < M
    · obtain ⟨x, hx⟩ : ∃ x, (pcs s)[k]? = some x := ⟨_, List.getElem?_eq_getElem (by rw [← HM.out]; exact hlt)⟩
      obtain ⟨g, cap, hv, hg, c0, c1, c2, c3⟩ := hI.un.slot hx
      rw [← HM.out] at hv
      simp at hv
      obtain ⟨rfl, rfl⟩ := hv
      have p1 : (k : Int) < (M : Int) := by omega
      have p2 : (0 : Int) ≤ (k : Int) := by omega
      obtain ⟨q, _, hxq⟩ := pcsFrom_mem s 0 x (List.mem_of_getElem? hx)
      have hcb : x.c ≤ 1114111 := by rw [hxq]; exact pcAt_c_le s q
      have hts := fromPc_take hx
      have hle := hI.un.le
      have hrow := hI.row
      obtain ⟨va, vc, rfl⟩ := rwSlice hrow
      have hlen : (fromPc ((pcs s).take k)).length ≤ 2199023255552 := by
        have h1 := fromPc_len ((pcs s).take k)
        have h2 : ((pcs s).take k).length ≤ k := by simp; omega
        omega
      obtain ⟨n, hn⟩ : ∃ n, n = (fromPc ((pcs s).take k)).length := ⟨_, rfl⟩
      rw [← hn] at hlen hrow ⊢
      obtain ⟨y, hy⟩ : ∃ y, y = x.c := ⟨_, rfl⟩
      rw [← hy] at hts hcb c3
      have HTS := Lib.hid hts
      have HROW := Lib.hid hrow
      have HNN := Lib.hid hn
      clear hx hxq hts hI hrow hn hy c0 c1 c2
      by_cases h1 : 65535 < y
      · have q1 : (65535 : Int) < (y : Int) := by omega
        have hb1 : bits .and .i32 ((y : Int) - 65536) 1023 = ((y : Int) - 65536) % 1024 := i32_and1023 (by omega) (by omega)
        have E : Hid ([Value.int .u16 (55296 + ((y : Int) - 65536) / 1024), .int .u16 (56320 + ((y : Int) - 65536) % 1024)] = enc16 [55296 + (y - 65536) / 1024, 56320 + (y - 65536) % 1024]) := Lib.hid (by simp only [enc16, List.map_cons, List.map_nil]; congr 1; congr 1; omega; congr 1; congr 1; omega)
        have HU := Lib.hid (show unitsOf y = [55296 + (y - 65536) / 1024, 56320 + (y - 65536) % 1024] by unfold unitsOf; rw [if_pos h1])
        go_wp2_with (at_builtin; refine wpList_append_lies _ rfl (.tmp 24) (.tmp 33) 73 rfl w.heap.size 79 i79 _ 1 2 Try.underlying73 hi79 ha1 ha2 ha3 rfl (by omega) _ n _ rfl (HROW.out.alloc _) ⟨wr.heap.size, 0, none⟩ 2 2 [.int .u16 (55296 + ((y : Int) - 65536) / 1024), .int .u16 (56320 + ((y : Int) - 65536) % 1024)] rfl rfl (World.news_of_block (cs := #[.int .u16 (55296 + ((y : Int) - 65536) / 1024), .int .u16 (56320 + ((y : Int) - 65536) % 1024)]) (t := 79) (fr := (0, 0)) (Go.heap_alloc_new wr _)) (by simp [Value.oneCell']) (by omega) (by unfold maxLen; omega) (by omega) (by simp; omega) _ rfl ?_)
        intro g3 c3 w3 hown3 hgrow3 _ _
        have HF : Hid (FmI w (pcs s) (.slice (some ⟨g, 0, none⟩) M uc) (fromPc ((pcs s).take (k + 1))) (.slice (some ⟨g3, 0, none⟩) (n + 2) c3) w3) := Lib.hid (by
          have f : FrT [79] w.heap.size wr w3 := ((FrT.refl _ _ _).alloc _).append (HROW.out.alloc _) (Nat.le_refl _) (by simp) hgrow3
          refine ⟨HI.out.un.keep f (by decide) (Nat.le_refl _), ?_⟩
          rw [HTS.out, HU.out, List.length_append, ← HNN.out, show enc16 (fromPc ((pcs s).take k) ++ [55296 + (y - 65536) / 1024, 56320 + (y - 65536) % 1024]) = enc16 (fromPc ((pcs s).take k)) ++ enc16 [55296 + (y - 65536) / 1024, 56320 + (y - 65536) % 1024] by simp [enc16]]
          rw [show ([Value.int .u16 (55296 + ((y : Int) - 65536) / 1024), .int .u16 (56320 + ((y : Int) - 65536) % 1024)] : List Value) = enc16 [55296 + (y - 65536) / 1024, 56320 + (y - 65536) % 1024] from by first | exact E.out | rfl | simp [enc16]] at hown3
          exact hown3)
        clear hown3 hgrow3
        go_wp2
        go_roundw
        case rel => exact ⟨k + 1, hlt, by go_num, HF.out⟩
        case measure => simp [intOf]; omega
      · have q1 : ¬ (65535 : Int) < (y : Int) := by omega
        have q2 : (y : Int) ≤ 65535 := by omega
        have E : Hid ([Value.int .u16 (y : Int)] = enc16 [y]) := Lib.hid rfl
        have HU := Lib.hid (show unitsOf y = [y] by unfold unitsOf; rw [if_neg h1])
        go_wp2_with (at_builtin; refine wpList_append_lies _ rfl (.tmp 35) (.tmp 38) 73 rfl w.heap.size 79 i79 _ 1 2 Try.underlying73 hi79 ha1 ha2 ha3 rfl (by omega) _ n _ rfl (HROW.out.alloc _) ⟨wr.heap.size, 0, none⟩ 1 1 [.int .u16 (y : Int)] rfl rfl (World.news_of_block (cs := #[.int .u16 (y : Int)]) (t := 79) (fr := (0, 0)) (Go.heap_alloc_new wr _)) (by simp [Value.oneCell']) (by omega) (by unfold maxLen; omega) (by omega) (by simp; omega) _ rfl ?_)
        intro g3 c3 w3 hown3 hgrow3 _ _
        have HF : Hid (FmI w (pcs s) (.slice (some ⟨g, 0, none⟩) M uc) (fromPc ((pcs s).take (k + 1))) (.slice (some ⟨g3, 0, none⟩) (n + 1) c3) w3) := Lib.hid (by
          have f : FrT [79] w.heap.size wr w3 := ((FrT.refl _ _ _).alloc _).append (HROW.out.alloc _) (Nat.le_refl _) (by simp) hgrow3
          refine ⟨HI.out.un.keep f (by decide) (Nat.le_refl _), ?_⟩
          rw [HTS.out, HU.out, List.length_append, ← HNN.out, show enc16 (fromPc ((pcs s).take k) ++ [y]) = enc16 (fromPc ((pcs s).take k)) ++ enc16 [y] by simp [enc16]]
          rw [show ([Value.int .u16 (y : Int)] : List Value) = enc16 [y] from by first | exact E.out | rfl | simp [enc16]] at hown3
          exact hown3)
        clear hown3 hgrow3
        go_wp2
        go_roundw
        case rel => exact ⟨k + 1, hlt, by go_num, HF.out⟩
        case measure => simp [intOf]; omega
    · have e : (pcs s).take k = pcs s := List.take_of_length_le (by rw [← HM.out]; omega)
      rw [e] at HI
      have hrow := HI.out.row
      obtain ⟨va, vc, rfl⟩ := rwSlice hrow
      have hlb : (fromPc (pcs s)).length ≤ 9223372036854775807 := by
        have h1 := fromPc_len (pcs s)
        have h2 := pcs_len s
        omega
      have HS := Lib.hid (sl16_of_row (more := []) (n := 0) (by simpa using hrow) (Nat.le_refl _) (fromPc_le s) hlb)
      have HRW := Lib.hid hrow
      clear hrow e hI hlb
      go_wp2
      go_ret
      exact ⟨va, vc, rfl, HS.out, HRW.out, HI.out.un.bel⟩
end Go.Proofs.Ytlmbpbijhhnhpaa
