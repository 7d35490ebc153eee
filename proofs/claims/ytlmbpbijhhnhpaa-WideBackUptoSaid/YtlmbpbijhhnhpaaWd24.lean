/- The document's Pieces and From. -/
import Derived.Test.YtlmbpbijhhnhpaaWd23
import Derived.Test.YtlmbpbijhhnhpaaWd14
import Derived.Test.YtlmbpbijhhnhpaaFl
namespace Go.Proofs.Ytlmbpbijhhnhpaa
open Go.RowKit
set_option linter.unusedVariables false
set_option maxRecDepth 100000

def pcCells (x : Pc) : List Value := [.int .i64 (x.p : Int), .int .i64 (x.n : Int), .bool x.ok, .int .i32 (x.c : Int)]
theorem pcCells_len (x : Pc) : (pcCells x).length = 4 := rfl
def pcRow (l : List Pc) : List Value := l.flatMap pcCells
theorem info86 : (Try.prog.info? 86).map (fun i => (i.zero, i.size, i.bytes)) = some (some (.agg #[.int .i64 0, .int .i64 0, .bool false, .int .i32 0]), 4, 24) := by kernel_rfl

/-- What the loop of Pieces has laid so far. -/
structure PcI (w0 : World) (l : List Pc) (v : Value) (w : World) : Prop where
  row : w.ownsRow w0.heap.size 86 4 v l.length (pcRow l)
  bel : Below w0.heap.size w0 w
  le : w0.heap.size ≤ w.heap.size
theorem PcI.below {w0 w w' : World} {l : List Pc} {v : Value} (h : PcI w0 l v w) (b : Below w.heap.size w w') : PcI w0 l v w' :=
  ⟨(FrT.of_below (T := []) (B := 0) b).row h.row (by simp), h.bel.trans (b.mono h.le), Nat.le_trans h.le b.size⟩
theorem PcI.push {w0 w w3 : World} {l : List Pc} {v : Value} {x : Pc} {g c3 n : Nat} {o : Obj} (h : PcI w0 l v w) (hn : n = l.length) (hown : w3.ownsRow w0.heap.size 86 4 (.slice (some ⟨g, 0, none⟩) (n + 1) c3) (n + 1) (pcRow l ++ pcCells x)) (hg : (w.alloc o).grownBy w3 v.ownBlock) :
    PcI w0 (l ++ [x]) (.slice (some ⟨g, 0, none⟩) (n + 1) c3) w3 := by
  subst hn
  have f : FrT [86] w0.heap.size w w3 := ((FrT.refl _ _ _).alloc o).append (h.row.alloc o) (Nat.le_refl _) (by simp) hg
  refine ⟨?_, h.bel.trans (f.below h.le), Nat.le_trans h.le f.size⟩
  rw [show (l ++ [x]).length = l.length + 1 by simp, show pcRow (l ++ [x]) = pcRow l ++ pcCells x by simp [pcRow]]
  exact hown
theorem PcI.slot {w0 w : World} {l : List Pc} {v : Value} (h : PcI w0 l v w) {k : Nat} {x : Pc} (hk : l[k]? = some x) :
    ∃ g cap, v = .slice (some ⟨g, 0, none⟩) l.length cap ∧ g < w.heap.size ∧ w.cell? ⟨g, k * 4, none⟩ = some (.int .i64 (x.p : Int)) ∧ w.cell? ⟨g, k * 4 + 1, none⟩ = some (.int .i64 (x.n : Int)) ∧ w.cell? ⟨g, k * 4 + 2, none⟩ = some (.bool x.ok) ∧ w.cell? ⟨g, k * 4 + 3, none⟩ = some (.int .i32 (x.c : Int)) := by
  have hl : k < l.length := (List.getElem?_eq_some_iff.1 hk).1
  obtain ⟨g, cap, rfl, _⟩ := h.row.form (by omega)
  have c (j : Nat) (hj : j < 4) := (h.row.cellAt (k * 4 + j) (fl_lt hl hj)).trans (fl_at pcCells_len hk j hj)
  have c0 := c 0 (by omega)
  have c1 := c 1 (by omega)
  have c2 := c 2 (by omega)
  have c3 := c 3 (by omega)
  simp [pcCells] at c0 c1 c2 c3
  exact ⟨g, cap, rfl, block_lt_of_cell c0, c0, c1, c2, c3⟩

set_option maxHeartbeats 4000000 in
theorem ref_pieces (s : ByteArray) (hs : s.size ≤ 1099511627776) (w : World) :
    Calls Try.prog 49 #[.string s] w fun e w' => ∃ v, e = .returned v ∧ PcI w (pcs s) v w' := by
  obtain ⟨i86, hi86, ha1, ha2, ha3⟩ := info_parts info86
  obtain ⟨N, hN⟩ : ∃ N, N = s.size := ⟨_, rfl⟩
  go_enter Try.func49, Try.ntmps49
  go_wp2_with fail
  go_loopw [3, 4] (fun v vi wr => ∃ k : Nat, ∃ pre, k ≤ s.size ∧ vi = .int .i64 (k : Nat) ∧ pcs s = pre ++ pcsFrom s k ∧ PcI w pre v wr) (fun _ v _ => s.size - (intOf v).toNat)
  case atStart => exact ⟨0, [], Nat.zero_le _, rfl, rfl, World.ownsRow_nil _ _ _ _, Below.refl _ _, Nat.le_refl _⟩
  case round =>
    obtain ⟨k, pre, hk, rfl, hpre, hI⟩ := hrel
    have HI := Lib.hid hI
    have HP := Lib.hid hpre
    by_cases hlt : k < s.size
    · have p1 : (k : Int) < (s.size : Int) := by omega
      have hpc := fun w => ref_piece s k hlt (by omega) w
      have hstep := pcsFrom_step s k hlt
      have hn4 := pcAt_n_bnd s k
      have hsz := pcAt_size s k hlt
      have hpp := pcAt_p s k
      obtain ⟨x, hx⟩ : ∃ x, x = pcAt s k := ⟨_, rfl⟩
      rw [← hx] at hpc hstep hn4 hsz hpp
      have hrow := hI.row
      obtain ⟨va, vc, rfl⟩ := rwSlice hrow
      have hlen : pre.length ≤ s.size := by
        have h1 := pcs_len s
        rw [hpre] at h1
        simp at h1
        omega
      obtain ⟨n, hn⟩ : ∃ n, n = pre.length := ⟨_, rfl⟩
      rw [← hn] at hrow hlen HI ⊢
      have hle := hI.le
      have HROW := Lib.hid hrow
      have HNN := Lib.hid hn
      have HNX : Hid (pcs s = (pre ++ [x]) ++ pcsFrom s (k + x.n)) := Lib.hid (by rw [hpre, hstep]; simp)
      have HPC := Lib.hid hpc
      clear hI hrow hpre hstep hn hpc hx hpp
      obtain ⟨xp, xn, xo, xc⟩ := x
      simp only at hn4 hsz
      go_wp2_with fail
      refine (HPC.out _).mono ?_
      rintro e w2 ⟨rfl, b2⟩
      simp only [pcVal]
      have hrow2 := (FrT.of_below (T := []) (B := 0) b2).row HROW.out (by simp)
      have HI2 := Lib.hid (HI.out.below b2)
      have hle2 := HI2.out.le
      have HROW2 := Lib.hid hrow2
      clear b2 hrow2
      have q1 : (k : Int) + (xn : Int) ≤ 9223372036854775807 := by omega
      have q2 : (0 : Int) ≤ (k : Int) + (xn : Int) := by omega
      go_wp2_with (at_builtin; refine wpList_append_lies _ rfl (.tmp 13) (.tmp 15) 83 rfl w.heap.size 86 i86 _ 4 24 Try.underlying83 hi86 ha1 ha2 ha3 rfl (by omega) _ n _ rfl ((HROW2.out.alloc _).alloc _) ⟨w2.heap.size + 1, 0, none⟩ 1 1 [.int .i64 (xp : Int), .int .i64 (xn : Int), .bool xo, .int .i32 (xc : Int)] rfl rfl (World.news_of_block (w := (w2.alloc (.cells #[.int .i64 (xp : Int), .int .i64 (xn : Int), .bool xo, .int .i32 (xc : Int)] 86)).alloc (.cells #[.int .i64 (xp : Int), .int .i64 (xn : Int), .bool xo, .int .i32 (xc : Int)] 86)) (cs := #[.int .i64 (xp : Int), .int .i64 (xn : Int), .bool xo, .int .i32 (xc : Int)]) (t := 86) (fr := (0, 0)) (by have := Go.heap_alloc_new (w2.alloc (.cells #[.int .i64 (xp : Int), .int .i64 (xn : Int), .bool xo, .int .i32 (xc : Int)] 86)) (.cells #[.int .i64 (xp : Int), .int .i64 (xn : Int), .bool xo, .int .i32 (xc : Int)] 86); rwa [World.size_alloc] at this)) (by simp [Value.oneCell']) (by omega) (by unfold maxLen; omega) (by omega) (by simp; omega) _ rfl ?_)
      intro g3 c3 w3 hown3 hgrow3 _ _
      have hbx : w3.heap[w2.heap.size]? = some (.cells #[.int .i64 (xp : Int), .int .i64 (xn : Int), .bool xo, .int .i32 (xc : Int)] 86 (0, 0)) := by
        refine (hgrow3.block w2.heap.size (by simp; omega) (fun e => ?_)).trans (alloc_blk (Go.heap_alloc_new w2 _) _)
        have := (HROW2.out.lt _ e.symm).2
        omega
      have HF := Lib.hid ((HI2.out.below (w' := w2.alloc (.cells #[.int .i64 (xp : Int), .int .i64 (xn : Int), .bool xo, .int .i32 (xc : Int)] 86)) (by repeat (first | exact Below.refl _ _ | assumption | refine Below.drew ?_ | refine below_drewN ?_ _ | refine Below.alloc ?_ (by simp <;> omega) _ | refine Below.setCell ?_ (by simp <;> omega) _ | (apply bl_trans; assumption; (simp <;> omega))))).push (x := ⟨xp, xn, xo, xc⟩) HNN.out hown3 hgrow3)
      have c1 := cell_blk hbx 1 rfl
      have l3 := lt_of_some hbx
      simp at c1
      clear hown3 hgrow3 hbx
      go_wp2
      go_roundw
      case rel => exact ⟨k + xn, pre ++ [⟨xp, xn, xo, xc⟩], hsz, by go_num, HNX.out, HF.out⟩
      case measure => simp [intOf]; omega
    · have e : pcsFrom s k = [] := pcsFrom_end s k hlt
      have hpre' : pre = pcs s := by rw [hpre, e]; simp
      subst hpre'
      clear hpre hI e HP
      go_wp2
      go_ret
      exact ⟨_, rfl, HI.out⟩
end Go.Proofs.Ytlmbpbijhhnhpaa
