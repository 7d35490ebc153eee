/- The document's Units: the code points of units, as a row of structs. -/
import Derived.Test.YtlmbpbijhhnhpaaWd15
import Derived.Test.YtlmbpbijhhnhpaaFl
namespace Go.Proofs.Ytlmbpbijhhnhpaa
open Go.RowKit
set_option linter.unusedVariables false
set_option maxRecDepth 100000

def unCells (x : Un) : List Value := [.int .i64 (x.p : Int), .int .i64 (x.n : Int), .int .i32 (x.c : Int), .bool x.lone]
theorem unCells_len (x : Un) : (unCells x).length = 4 := rfl
def unRow (l : List Un) : List Value := l.flatMap unCells
theorem info98 : (Try.prog.info? 98).map (fun i => (i.zero, i.size, i.bytes)) = some (some (.agg #[.int .i64 0, .int .i64 0, .int .i32 0, .bool false]), 4, 24) := by kernel_rfl

/-- What the loop of Units has laid so far. -/
structure UnI (w0 : World) (l : List Un) (v : Value) (w : World) : Prop where
  row : w.ownsRow w0.heap.size 98 4 v l.length (unRow l)
  bel : Below w0.heap.size w0 w
  le : w0.heap.size ≤ w.heap.size

theorem UnI.push {w0 w w3 : World} {l : List Un} {v : Value} {x : Un} {g c3 n : Nat} {o : Obj} (h : UnI w0 l v w) (hn : n = l.length) (hown : w3.ownsRow w0.heap.size 98 4 (.slice (some ⟨g, 0, none⟩) (n + 1) c3) (n + 1) (unRow l ++ unCells x)) (hg : (w.alloc o).grownBy w3 v.ownBlock) :
    UnI w0 (l ++ [x]) (.slice (some ⟨g, 0, none⟩) (n + 1) c3) w3 := by
  subst hn
  have f : FrT [98] w0.heap.size w w3 := ((FrT.refl _ _ _).alloc o).append (h.row.alloc o) (Nat.le_refl _) (by simp) hg
  refine ⟨?_, h.bel.trans (f.below h.le), Nat.le_trans h.le f.size⟩
  rw [show (l ++ [x]).length = l.length + 1 by simp, show unRow (l ++ [x]) = unRow l ++ unCells x by simp [unRow]]
  exact hown

set_option maxHeartbeats 4000000 in
theorem ref_units {w : World} {a : Option Addr} {us : List Nat} (ca : Nat) (hA : Sl16 w a us) (hl : us.length ≤ 1099511627776) :
    Calls Try.prog 54 #[.slice a us.length ca] w fun e w' => ∃ v, e = .returned v ∧ UnI w (uns us) v w' := by
  have HA := Lib.hid hA
  obtain ⟨N, hN⟩ : ∃ N, N = us.length := ⟨_, rfl⟩
  rw [← hN] at hl ⊢
  have HN := Lib.hid hN
  obtain ⟨i98, hi98, ha1, ha2, ha3⟩ := info_parts info98
  clear hA hN
  go_enter Try.func54, Try.ntmps54
  go_wp2_with fail
  go_loopw [3, 4] (fun v vi wr => ∃ k : Nat, ∃ pre, k ≤ N ∧ vi = .int .i64 (k : Nat) ∧ uns us = pre ++ unsFrom us k ∧ UnI w pre v wr) (fun _ v _ => N - (intOf v).toNat)
  case atStart => exact ⟨0, [], Nat.zero_le _, rfl, rfl, World.ownsRow_nil _ _ _ _, Below.refl _ _, Nat.le_refl _⟩
  case round =>
    obtain ⟨k, pre, hk, rfl, hpre, hI⟩ := hrel
    have HI := Lib.hid hI
    have HP := Lib.hid hpre
    by_cases hlt : k < N
    · have hlt' : k < us.length := by rw [← HN.out]; exact hlt
      obtain ⟨u, hu⟩ : ∃ u, us[k]? = some u := ⟨_, List.getElem?_eq_getElem hlt'⟩
      obtain ⟨hu1, b1, o1, rfl, hb1, c1⟩ := (HA.out.below hI.bel).at_ k u hu
      have p1 : (k : Int) < (N : Int) := by omega
      have p2 : (0 : Int) ≤ (k : Int) := by omega
      have q1 : IntKind.i64.wrap ((k : Int) + 1) = (k : Int) + 1 := IntWalk.i64_in _ (by omega)
      have hrow := hI.row
      obtain ⟨va, vc, rfl⟩ := rwSlice hrow
      have hlen : pre.length ≤ N := by
        have h1 := uns_len us
        rw [hpre] at h1
        simp at h1
        rw [HN.out]
        omega
      obtain ⟨n, hn⟩ : ∃ n, n = pre.length := ⟨_, rfl⟩
      rw [← hn] at hrow hlen HI ⊢
      have hstep := unsFrom_step us k hlt'
      have e1 := getD_of hu
      have hle := hI.le
      have HROW := Lib.hid hrow
      have HNN := Lib.hid hn
      obtain ⟨x, hx⟩ : ∃ x, x = unAt us k := ⟨_, rfl⟩
      have HNX : Hid (∀ m, x.n = m → uns us = (pre ++ [x]) ++ unsFrom us (k + m)) := Lib.hid (fun m hm => by rw [hpre, hstep, ← hx, hm]; simp)
      clear hI hrow hpre hstep hn
      by_cases hp : Pair us k
      · obtain ⟨h1, h2, h3, h4, h5⟩ := hp
        have hkl : k + 1 < N := by rw [HN.out]; exact h3
        obtain ⟨v, hv⟩ : ∃ v, us[k + 1]? = some v := ⟨_, List.getElem?_eq_getElem h3⟩
        have e2 := getD_of hv
        obtain ⟨hv1, b1', o1', e3, _, c2⟩ := (HA.out.below HI.out.bel).at_ (k + 1) v hv
        cases e3
        have hxe : x = ⟨k, 2, 65536 + (u - 55296) * 1024 + (v - 56320), false⟩ := by rw [hx, unAt, if_pos ⟨h1, h2, h3, h4, h5⟩, e1, e2]
        rw [e1] at h1 h2
        rw [e2] at h4 h5
        have e4 : ((65536 + (u - 55296) * 1024 + (v - 56320) : Nat) : Int) = 65536 + ((u : Int) - 55296) * 1024 + ((v : Int) - 56320) := by omega
        have HXE : Hid (unCells x = [.int .i64 (k : Int), .int .i64 2, .int .i32 (65536 + ((u : Int) - 55296) * 1024 + ((v : Int) - 56320)), .bool false] ∧ x.n = 2) := Lib.hid ⟨by rw [hxe, unCells]; simp only [e4]; rfl, by rw [hxe]⟩
        have r1 : (55296 : Int) ≤ (u : Int) := by omega
        have r2 : (u : Int) < 56320 := by omega
        have r2' : (u : Int) < 57344 := by omega
        have r3 : (k : Int) + 1 < (N : Int) := by omega
        have r4 : (56320 : Int) ≤ (v : Int) := by omega
        have r5 : (v : Int) < 57344 := by omega
        clear hx e1 e2 hv h3 hxe e4 hu
        go_wp2_with (at_builtin; refine wpList_append_lies _ rfl (.tmp 66) (.tmp 70) 92 rfl w.heap.size 98 i98 _ 4 24 Try.underlying92 hi98 ha1 ha2 ha3 rfl (by omega) _ n _ rfl (HROW.out.alloc _) ⟨wr.heap.size, 0, none⟩ 1 1 [.int .i64 (k : Int), .int .i64 2, .int .i32 (65536 + ((u : Int) - 55296) * 1024 + ((v : Int) - 56320)), .bool false] rfl rfl (World.news_of_block (cs := #[.int .i64 (k : Int), .int .i64 2, .int .i32 (65536 + ((u : Int) - 55296) * 1024 + ((v : Int) - 56320)), .bool false]) (t := 98) (fr := (0, 0)) (Go.heap_alloc_new wr _)) (by simp [Value.oneCell']) (by omega) (by unfold maxLen; omega) (by omega) (by simp; omega) _ rfl ?_)
        intro g3 c3 w3 hown3 hgrow3 _ _
        have HF := Lib.hid (HI.out.push HNN.out (by rw [HXE.out.1]; exact hown3) hgrow3)
        clear hown3 hgrow3
        go_wp2
        go_roundw
        case rel => exact ⟨k + 2, pre ++ [x], by omega, by go_num, HNX.out 2 HXE.out.2, HF.out⟩
        case measure => simp [intOf]; omega
      · have HNP : Hid (¬ Pair us k) := Lib.hid hp
        have hxe : x = ⟨k, 1, u, decide (55296 ≤ u ∧ u < 57344)⟩ := by rw [hx, unAt, if_neg hp, e1]
        clear hx hp hu
        by_cases hh : 55296 ≤ u ∧ u < 57344
        · have HXE : Hid (unCells x = [.int .i64 (k : Int), .int .i64 1, .int .i32 (u : Int), .bool true] ∧ x.n = 1) := Lib.hid ⟨by rw [hxe, unCells]; simp only [decide_eq_true hh]; rfl, by rw [hxe]⟩
          obtain ⟨h1, h2⟩ := hh
          have r1 : (55296 : Int) ≤ (u : Int) := by omega
          have r2 : (u : Int) < 57344 := by omega
          clear hxe
          by_cases h3 : u < 56320
          · have r3 : (u : Int) < 56320 := by omega
            by_cases h4 : k + 1 < N
            · have r4 : (k : Int) + 1 < (N : Int) := by omega
              have h4' : k + 1 < us.length := by rw [← HN.out]; exact h4
              obtain ⟨v, hv⟩ : ∃ v, us[k + 1]? = some v := ⟨_, List.getElem?_eq_getElem h4'⟩
              have e2 := getD_of hv
              obtain ⟨hv1, b1', o1', e3, _, c2⟩ := (HA.out.below HI.out.bel).at_ (k + 1) v hv
              cases e3
              by_cases h5 : 56320 ≤ v
              · have r5 : (56320 : Int) ≤ (v : Int) := by omega
                have r6 : ¬ (v : Int) < 57344 := fun h6 => HNP.out ⟨by rw [e1]; omega, by rw [e1]; omega, h4', by rw [e2]; omega, by rw [e2]; omega⟩
                clear e1 e2 hv h4'
                go_wp2_with (at_builtin; refine wpList_append_lies _ rfl (.tmp 74) (.tmp 80) 92 rfl w.heap.size 98 i98 _ 4 24 Try.underlying92 hi98 ha1 ha2 ha3 rfl (by omega) _ n _ rfl (HROW.out.alloc _) ⟨wr.heap.size, 0, none⟩ 1 1 [.int .i64 (k : Int), .int .i64 1, .int .i32 (u : Int), .bool true] rfl rfl (World.news_of_block (cs := #[.int .i64 (k : Int), .int .i64 1, .int .i32 (u : Int), .bool true]) (t := 98) (fr := (0, 0)) (Go.heap_alloc_new wr _)) (by simp [Value.oneCell']) (by omega) (by unfold maxLen; omega) (by omega) (by simp; omega) _ rfl ?_)
                intro g3 c3 w3 hown3 hgrow3 _ _
                have HF := Lib.hid (HI.out.push HNN.out (by rw [HXE.out.1]; exact hown3) hgrow3)
                clear hown3 hgrow3
                go_wp2
                go_roundw
                case rel => exact ⟨k + 1, pre ++ [x], by omega, by go_num, HNX.out 1 HXE.out.2, HF.out⟩
                case measure => simp [intOf]; omega
              · have r5 : ¬ (56320 : Int) ≤ (v : Int) := by omega
                clear e1 e2 hv h4'
                go_wp2_with (at_builtin; refine wpList_append_lies _ rfl (.tmp 74) (.tmp 80) 92 rfl w.heap.size 98 i98 _ 4 24 Try.underlying92 hi98 ha1 ha2 ha3 rfl (by omega) _ n _ rfl (HROW.out.alloc _) ⟨wr.heap.size, 0, none⟩ 1 1 [.int .i64 (k : Int), .int .i64 1, .int .i32 (u : Int), .bool true] rfl rfl (World.news_of_block (cs := #[.int .i64 (k : Int), .int .i64 1, .int .i32 (u : Int), .bool true]) (t := 98) (fr := (0, 0)) (Go.heap_alloc_new wr _)) (by simp [Value.oneCell']) (by omega) (by unfold maxLen; omega) (by omega) (by simp; omega) _ rfl ?_)
                intro g3 c3 w3 hown3 hgrow3 _ _
                have HF := Lib.hid (HI.out.push HNN.out (by rw [HXE.out.1]; exact hown3) hgrow3)
                clear hown3 hgrow3
                go_wp2
                go_roundw
                case rel => exact ⟨k + 1, pre ++ [x], by omega, by go_num, HNX.out 1 HXE.out.2, HF.out⟩
                case measure => simp [intOf]; omega
            · have r4 : ¬ (k : Int) + 1 < (N : Int) := by omega
              clear e1
              go_wp2_with (at_builtin; refine wpList_append_lies _ rfl (.tmp 74) (.tmp 80) 92 rfl w.heap.size 98 i98 _ 4 24 Try.underlying92 hi98 ha1 ha2 ha3 rfl (by omega) _ n _ rfl (HROW.out.alloc _) ⟨wr.heap.size, 0, none⟩ 1 1 [.int .i64 (k : Int), .int .i64 1, .int .i32 (u : Int), .bool true] rfl rfl (World.news_of_block (cs := #[.int .i64 (k : Int), .int .i64 1, .int .i32 (u : Int), .bool true]) (t := 98) (fr := (0, 0)) (Go.heap_alloc_new wr _)) (by simp [Value.oneCell']) (by omega) (by unfold maxLen; omega) (by omega) (by simp; omega) _ rfl ?_)
              intro g3 c3 w3 hown3 hgrow3 _ _
              have HF := Lib.hid (HI.out.push HNN.out (by rw [HXE.out.1]; exact hown3) hgrow3)
              clear hown3 hgrow3
              go_wp2
              go_roundw
              case rel => exact ⟨k + 1, pre ++ [x], by omega, by go_num, HNX.out 1 HXE.out.2, HF.out⟩
              case measure => simp [intOf]; omega
          · have r3 : ¬ (u : Int) < 56320 := by omega
            clear e1
            go_wp2_with (at_builtin; refine wpList_append_lies _ rfl (.tmp 74) (.tmp 80) 92 rfl w.heap.size 98 i98 _ 4 24 Try.underlying92 hi98 ha1 ha2 ha3 rfl (by omega) _ n _ rfl (HROW.out.alloc _) ⟨wr.heap.size, 0, none⟩ 1 1 [.int .i64 (k : Int), .int .i64 1, .int .i32 (u : Int), .bool true] rfl rfl (World.news_of_block (cs := #[.int .i64 (k : Int), .int .i64 1, .int .i32 (u : Int), .bool true]) (t := 98) (fr := (0, 0)) (Go.heap_alloc_new wr _)) (by simp [Value.oneCell']) (by omega) (by unfold maxLen; omega) (by omega) (by simp; omega) _ rfl ?_)
            intro g3 c3 w3 hown3 hgrow3 _ _
            have HF := Lib.hid (HI.out.push HNN.out (by rw [HXE.out.1]; exact hown3) hgrow3)
            clear hown3 hgrow3
            go_wp2
            go_roundw
            case rel => exact ⟨k + 1, pre ++ [x], by omega, by go_num, HNX.out 1 HXE.out.2, HF.out⟩
            case measure => simp [intOf]; omega
        · have HXE : Hid (unCells x = [.int .i64 (k : Int), .int .i64 1, .int .i32 (u : Int), .bool false] ∧ x.n = 1) := Lib.hid ⟨by rw [hxe, unCells]; simp only [decide_eq_false hh]; rfl, by rw [hxe]⟩
          clear hxe e1
          by_cases h1 : 55296 ≤ u
          · have r1 : (55296 : Int) ≤ (u : Int) := by omega
            have r2 : ¬ (u : Int) < 57344 := by omega
            have r3 : ¬ (u : Int) < 56320 := by omega
            clear hh
            go_wp2_with (at_builtin; refine wpList_append_lies _ rfl (.tmp 74) (.tmp 80) 92 rfl w.heap.size 98 i98 _ 4 24 Try.underlying92 hi98 ha1 ha2 ha3 rfl (by omega) _ n _ rfl (HROW.out.alloc _) ⟨wr.heap.size, 0, none⟩ 1 1 [.int .i64 (k : Int), .int .i64 1, .int .i32 (u : Int), .bool false] rfl rfl (World.news_of_block (cs := #[.int .i64 (k : Int), .int .i64 1, .int .i32 (u : Int), .bool false]) (t := 98) (fr := (0, 0)) (Go.heap_alloc_new wr _)) (by simp [Value.oneCell']) (by omega) (by unfold maxLen; omega) (by omega) (by simp; omega) _ rfl ?_)
            intro g3 c3 w3 hown3 hgrow3 _ _
            have HF := Lib.hid (HI.out.push HNN.out (by rw [HXE.out.1]; exact hown3) hgrow3)
            clear hown3 hgrow3
            go_wp2
            go_roundw
            case rel => exact ⟨k + 1, pre ++ [x], by omega, by go_num, HNX.out 1 HXE.out.2, HF.out⟩
            case measure => simp [intOf]; omega
          · have r1 : ¬ (55296 : Int) ≤ (u : Int) := by omega
            clear hh
            go_wp2_with (at_builtin; refine wpList_append_lies _ rfl (.tmp 74) (.tmp 80) 92 rfl w.heap.size 98 i98 _ 4 24 Try.underlying92 hi98 ha1 ha2 ha3 rfl (by omega) _ n _ rfl (HROW.out.alloc _) ⟨wr.heap.size, 0, none⟩ 1 1 [.int .i64 (k : Int), .int .i64 1, .int .i32 (u : Int), .bool false] rfl rfl (World.news_of_block (cs := #[.int .i64 (k : Int), .int .i64 1, .int .i32 (u : Int), .bool false]) (t := 98) (fr := (0, 0)) (Go.heap_alloc_new wr _)) (by simp [Value.oneCell']) (by omega) (by unfold maxLen; omega) (by omega) (by simp; omega) _ rfl ?_)
            intro g3 c3 w3 hown3 hgrow3 _ _
            have HF := Lib.hid (HI.out.push HNN.out (by rw [HXE.out.1]; exact hown3) hgrow3)
            clear hown3 hgrow3
            go_wp2
            go_roundw
            case rel => exact ⟨k + 1, pre ++ [x], by omega, by go_num, HNX.out 1 HXE.out.2, HF.out⟩
            case measure => simp [intOf]; omega
    · have e : unsFrom us k = [] := unsFrom_end us k (by rw [← HN.out]; exact hlt)
      have hpre' : pre = uns us := by rw [hpre, e]; simp
      subst hpre'
      clear hpre hI e HP
      go_wp2
      go_ret
      exact ⟨_, rfl, HI.out⟩
end Go.Proofs.Ytlmbpbijhhnhpaa
