/- The arena's All: the iterator that it hands back tells who lives, in the order of the slots; whatever its loop's body does that keeps the arena. -/
import Derived.RangeFuncNested
import Derived.RangeFuncBound
import Derived.RangeFuncCalls
import Derived.RangeFuncLeaves
import Derived.Shelf.Abstract
import Derived.Shelf.RegionOpen
import Derived.WalkKit
import Derived.OwnWalkIn
import Derived.TacticsInMore
import Derived.LoopNIn
import Derived.LoopIn
import Derived.Test.YtlmbpbijhhnhpaaRfT
namespace Go.Proofs.Ytlmbpbijhhnhpaa
open Go.RowKit Go.Shelf
attribute [local go_sem] Oper.semAt_some
set_option linter.unusedVariables false
set_option maxRecDepth 100000

abbrev Tell := (Nat × Nat) × Int
def encT (x : Tell) : Array Value := #[.agg #[.int .u32 (x.1.1 : Int), .int .u32 (x.1.2 : Int)], .int .i64 x.2]

/-- What a round keeps: all that lay below n0, and the block that the iterator has captured. -/
structure KpB (n0 Bn : Nat) (W W' : World) : Prop where
  below : Below n0 W W'
  cap : ∀ o, W.heap[Bn]? = some o → W'.heap[Bn]? = some o
theorem KpB.trans {n0 Bn : Nat} {A B C : World} (h : KpB n0 Bn A B) (k : KpB n0 Bn B C) : KpB n0 Bn A C := ⟨h.below.trans k.below, fun o e => k.cap o (h.cap o e)⟩
theorem kpB_b {n0 Bn : Nat} {w : World} (hn : n0 ≤ w.heap.size) (hb : Bn < w.heap.size) (W : World) (l : Nat) (o o' : Obj) (hl : w.heap.size ≤ l) (h : W.heap[l]? = some o) (h1 : o.isCells = false) (h2 : o.isWalk = false) : KpB n0 Bn W (W.putObj l o') :=
  ⟨belowK_b hn W l o o' hl h h1 h2, fun x e => (World.putObj_heap_other (by omega)).trans e⟩

theorem tel_append (a b : List (Nat × Bool × Int)) : ∃ r, tel (a ++ b) = tel a ++ r := by
  unfold tel
  rw [List.zipIdx_append, List.filterMap_append]
  exact ⟨_, rfl⟩
theorem tel_prefix (all : List (Nat × Bool × Int)) (k : Nat) : tel (all.take k) <+: tel all := by
  obtain ⟨r, hr⟩ := tel_append (all.take k) (all.drop k)
  rw [List.take_append_drop] at hr
  exact ⟨r, hr.symm⟩
theorem tel_short {all : List (Nat × Bool × Int)} {k g : Nat} {y : Int} (h : all[k]? = some (g, true, y)) : (tel (all.take k)).length < (tel all).length := by
  have h1 := tel_take h
  have h2 := (tel_prefix all (k + 1)).length_le
  rw [h1] at h2
  simp at h2
  omega

set_option maxHeartbeats 2000000 in
theorem all1_in (F : Fence) (n : Nat) (h82 : F.fn 82) (hro : F.round = none) (hn : 1 ≤ n) (l Bn : Nat) {B : Nat} {w0 : World} {ab : Nat} {T : TA Int} (hA : ArIOf B w0 ab T) (J Jx : List Tell → World → Prop) (W : World) (hJ : AbidesFrom W.heap.size J)
    (hY : ∀ pre x W1, J pre W1 → pre.length < (tel T.all).length → YieldAt F (n - 1) Try.prog l (encT x) W1 fun e W' =>
      (e = .returned (.bool true) ∧ J (pre ++ [x]) W' ∧ KpB w0.heap.size Bn W1 W') ∨ (e = .returned (.bool false) ∧ Jx (pre ++ [x]) W'))
    (hBn : W.heap[Bn]? = some (.cells #[.pointer (some ⟨ab, 0, none⟩)] 52 (0, 0))) (hB : Below w0.heap.size w0 W) (h0 : J [] W) :
    CallsIn F n Try.prog 82 #[.func (.yield l) #[] #[], .pointer (some ⟨Bn, 0, none⟩)] W fun e W' => (∃ v, e = .returned v) ∧
      ((∃ ys, ys = tel T.all ∧ J ys W') ∨ (∃ pre, pre <+: tel T.all ∧ Jx pre W')) := by
  have hl : T.all.length ≤ 2147483647 := by
    have h1 := hA.ok.len
    have h2 := hA.ok.S2
    simp [TA.ar] at h1 h2
    omega
  have HA := Lib.hid hA
  obtain ⟨av, fv, hat⟩ := hA
  obtain ⟨a, cap, rfl⟩ : ∃ a cap, av = .slice a T.all.length cap := by
    rcases hat.rowA.2 with ⟨rfl, hn⟩ | ⟨g, cap, cur, rfl, _⟩
    · exact ⟨none, 0, by simp [TA.ar] at hn; simp [hn]⟩
    · exact ⟨some ⟨g, 0, none⟩, cap, by simp [TA.ar]⟩
  have HAT := Lib.hid hat
  obtain ⟨N, hN⟩ : ∃ N, N = T.all.length := ⟨_, rfl⟩
  have HN := Lib.hid hN
  have hbox := cell_blk hBn 0 rfl
  have hat1 := hat.kept (FrT.of_below (T := []) (B := 0) hB) (by simp) (by simp) (by simp)
  have a2 := cell_blk hat1.blk 2 rfl
  simp at hbox a2
  rw [← hN] at a2 hl
  have HY := Lib.hid hY
  have HJ := Lib.hid hJ
  clear hat hat1 hN hY hJ
  refine callsIn_of_wp Try.func82 rfl h82 ?_ hro
  simp only [Try.ntmps82, List.size_toArray, List.length_cons, List.length_nil, Nat.reduceAdd, Nat.reduceSub, Array.replicate_succ, Array.replicate_zero, List.push_toArray, List.append_toArray, List.nil_append, List.cons_append]
  gi_wp2
  gi_loopw [10] (fun v wr => ∃ k : Nat, k ≤ N ∧ v = .int .i64 (k : Nat) ∧ J (tel (T.all.take k)) wr ∧ Below w0.heap.size w0 wr ∧ wr.heap[Bn]? = some (.cells #[.pointer (some ⟨ab, 0, none⟩)] 52 (0, 0))) (fun v _ => N - (intOf v).toNat)
  case atStart => exact ⟨0, Nat.zero_le _, rfl, h0, hB, hBn⟩
  case round =>
    obtain ⟨k, hk, rfl, hJs, hBr, hBx⟩ := hrel
    clear hbox a2
    by_cases hlt : k < N
    · obtain ⟨s, hs⟩ : ∃ s, T.all[k]? = some s := ⟨_, List.getElem?_eq_getElem (by rw [← HN.out]; exact hlt)⟩
      obtain ⟨g, u, y⟩ := s
      have hat1 := HAT.out.kept (FrT.of_below (T := []) (B := 0) hBr) (by simp) (by simp) (by simp)
      have hs' := TA.ar_get (enc := encI) hs
      obtain ⟨gb, cap', hav⟩ := hat1.head hs'
      simp [TA.ar] at hav
      obtain ⟨rfl, rfl⟩ := hav
      have c0 := slotAt hat1 (by simp [TA.ar]) hs' 0 (by omega)
      have c1 := slotAt hat1 (by simp [TA.ar]) hs' 1 (by omega)
      have c2 := slotAt hat1 (by simp [TA.ar]) hs' 2 (by omega)
      have hbox := cell_blk hBx 0 rfl
      have a2 := cell_blk hat1.blk 2 rfl
      simp [encI] at c0 c1 c2 hbox a2
      rw [← HN.out] at a2
      have q1 : IntKind.u32.wrap ((k : Int) + 1) = (k : Int) + 1 := IntWalk.u32_in _ (by omega)
      have p1 : (k : Int) < (N : Int) := by omega
      have ht := tel_take hs
      have hJn := HJ.out _ wr _ none hJs (World.grownBy_alloc wr (.cells #[.int .u32 (g : Int), .bool u, .int .i64 y] 123) none) (fun _ h => by cases h)
      have hBn' := hBr.alloc hBr.size (.cells #[.int .u32 (g : Int), .bool u, .int .i64 y] 123)
      have hBx' := alloc_blk hBx (.cells #[.int .u32 (g : Int), .bool u, .int .i64 y] 123)
      have HS := Lib.hid (And.intro hJn (And.intro hBn' hBx'))
      have HT := Lib.hid ht
      have HSS := Lib.hid hs
      clear hJn hBn' hBx' ht hs hs' hat1 hJs hBr hBx
      cases u with
      | false =>
        gi_wp2
        refine ⟨fun _ h => (by cases h), ?_⟩
        gi_wp2
        go_roundw
        case rel => exact ⟨k + 1, hlt, by go_num, by rw [HT.out]; simpa using HS.out.1, HS.out.2.1, HS.out.2.2⟩
        case measure => simp [intOf]; omega
      | true =>
        obtain ⟨fn, tmps, assign, body, hy, hR⟩ := HY.out _ ((k + 1, g), y) _ HS.out.1 (tel_short HSS.out)
        simp [encT] at hy
        gi_wp2
        refine hR.mono ?_
        rintro e W3 (⟨rfl, hJ3, hk3⟩ | ⟨rfl, hJx3⟩)
        · gi_wp2
          go_roundw
          case rel => exact ⟨k + 1, hlt, by go_num, by rw [HT.out]; simpa using hJ3, HS.out.2.1.trans hk3.below, hk3.cap _ HS.out.2.2⟩
          case measure => simp [intOf]; omega
        · gi_wp2
          refine bodyPost_ret (results_none rfl _ _ _) rfl ?_
          exact ⟨⟨_, rfl⟩, .inr ⟨_, by have := tel_prefix T.all (k + 1); rw [HT.out] at this; simpa using this, hJx3⟩⟩
    · have e : T.all.take k = T.all := List.take_of_length_le (by rw [← HN.out]; omega)
      rw [e] at hJs
      gi_wp2
      go_end0
      exact ⟨⟨_, rfl⟩, .inl ⟨_, rfl, hJs⟩⟩

/-- All() boxes its receiver; the function value captures the box. -/
theorem all_in (F : Fence) (n : Nat) (h67 : F.fn 67) (hro : F.round = none) (p : Option Addr) (w : World) :
    CallsIn F n Try.prog 67 #[.pointer p] w fun e w' => e = .returned (.func (.func 82) #[] #[.pointer (some ⟨w.heap.size, 0, none⟩)]) ∧ w' = w.alloc (.cells #[.pointer p] 52) := by
  refine callsIn_of_wp Try.func67 rfl h67 ?_ hro
  simp only [Try.ntmps67, List.size_toArray, List.length_cons, List.length_nil, Nat.reduceAdd, Nat.reduceSub, Array.replicate_succ, Array.replicate_zero, List.push_toArray, List.append_toArray, List.nil_append, List.cons_append]
  gi_wp2
  go_ret
  exact ⟨rfl, rfl⟩

/-- The iterator's contract. -/
theorem all_stops (F : Fence) (n : Nat) (h82 : F.fn 82) (hro : F.round = none) (hn : 1 ≤ n) (Bn : Nat) {B : Nat} {w0 : World} {ab : Nat} {T : TA Int} (hA : ArIOf B w0 ab T) (w : World) (hB : Below w0.heap.size w0 w) (hBn : w.heap[Bn]? = some (.cells #[.pointer (some ⟨ab, 0, none⟩)] 52 (0, 0))) :
    SeqStopsK F n Try.prog 82 #[.pointer (some ⟨Bn, 0, none⟩)] encT (KpB w0.heap.size Bn) (fun ys => ys = tel T.all) (fun pre => pre <+: tel T.all) (tel T.all).length w := fun l J Jx W hW hJ _ hY h0 =>
  all1_in F n h82 hro hn l Bn hA J Jx W hJ hY ((hW.block _ (lt_of_some hBn)).trans hBn) (hB.trans (hW.mono hB.size)) h0
end Go.Proofs.Ytlmbpbijhhnhpaa
