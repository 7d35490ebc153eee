/- Bad: its iterator tells the pieces that are none. -/
import Derived.Test.YtelhnaphkbpakaaWd12
import Derived.Test.YtelhnaphkbpakaaBx
import Derived.Conc.MuLone
namespace Go.Proofs.Ytelhnaphkbpakaa
open Go.RowKit Go.Shelf
attribute [local go_sem] Oper.semAt_some
set_option linter.unusedVariables false
set_option maxRecDepth 100000

theorem roomAny {F : Fence} (hd : F.depth = none) (k : Nat) : F.room k := fun d h => by rw [hd] at h; cases h
/-- Where no depth is asked the figures are all one. -/
theorem roundAny {F : Fence} (hd : F.depth = none) {m m' : Nat} {P : Program} {l : Nat} {f : FuncId} {tmps : Array Value} {assign body : Code} {w : World} {R : Ending → World → Prop} (h : RoundIn F m P l f tmps assign body w R) : RoundIn F m' P l f tmps assign body w R := ⟨h.1, fun c cs _ => h.2 c cs (roomAny hd _)⟩
theorem yieldAny {F : Fence} (hd : F.depth = none) {m : Nat} (m' : Nat) {P : Program} {l : Nat} {args : Array Value} {W : World} {R : Ending → World → Prop} (h : YieldAt F m P l args W R) : YieldAt F m' P l args W R := by
  obtain ⟨fn, tmps, assign, body, hy, hR⟩ := h
  exact ⟨fn, tmps, assign, body, hy, roundAny hd hR⟩

/-- What a round keeps: all that lay below n0; what a range walks over; boxes of one type (yield's). -/
structure KpY (t : TypeId) (n0 : Nat) (W W' : World) : Prop where
  below : Below n0 W W'
  walks : KeepsWalks W W'
  box : ∀ (k : Nat) (c : Array Value) (fz : Nat × Nat), W.heap[k]? = some (.cells c t fz) → W'.heap[k]? = some (.cells c t fz)
theorem KpY.trans {t : TypeId} {n0 : Nat} {A B C : World} (h : KpY t n0 A B) (k : KpY t n0 B C) : KpY t n0 A C := ⟨h.below.trans k.below, h.walks.trans k.walks, fun i c fz e => k.box i c fz (h.box i c fz e)⟩
theorem kpY_b {t : TypeId} {n0 : Nat} {w : World} (hn : n0 ≤ w.heap.size) (W : World) (l : Nat) (o o' : Obj) (hl : w.heap.size ≤ l) (h : W.heap[l]? = some o) (h1 : o.isCells = false) (h2 : o.isWalk = false) : KpY t n0 W (W.putObj l o') :=
  ⟨belowK_b hn W l o o' hl h h1 h2, KeepsWalks.putObj o' h h2, fun k c fz e => (World.putObj_heap_other (fun e1 => by subst e1; rw [h] at e; cases e; cases h1)).trans e⟩
theorem KpY.refl (t : TypeId) (n0 : Nat) (W : World) : KpY t n0 W W := ⟨Below.refl _ _, KeepsWalks.refl _, fun _ _ _ h => h⟩

def badL (l : List Pc) : List Pc := l.filter fun x => !x.ok
theorem badL_snoc (l : List Pc) (x : Pc) : badL (l ++ [x]) = badL l ++ if x.ok then [] else [x] := by cases h : x.ok <;> simp [badL, h]
def encBd (x : Pc) : Array Value := #[.int .i64 (x.p : Int), .int .i64 (x.n : Int)]

theorem bad_calls (s : ByteArray) (w : World) :
    Calls Try.prog 46 #[.string s] w fun e w' => e = .returned (.func (.func 87) #[] #[.pointer (some ⟨w.heap.size, 0, none⟩)]) ∧ w' = w.alloc (.cells #[.string s] 9) := by
  go_enter Try.func46, Try.ntmps46
  go_wp2
  go_ret
  exact ⟨rfl, rfl⟩

set_option maxHeartbeats 2000000 in
/-- The inner closure: it asks the loop, if the piece is none. -/
theorem bad_yield (m l yb : Nat) (at_ n c : Int) (bad : Bool) (W : World) (R : Ending → World → Prop) (hyb : W.heap[yb]? = some (.cells #[.func (.yield l) #[] #[]] 122 (0, 0)))
    (hgood : bad = false → R (.returned (.bool true)) W)
    (hY : bad = true → YieldAt Fence.wide (m - 1) Try.prog l #[.int .i64 at_, .int .i64 n] W (fun e W' => (e = .returned (.bool true) ∧ R (.returned (.bool true)) W') ∨ (e = .returned (.bool false) ∧ R (.returned (.bool false)) W'))) :
    CallsIn Fence.wide m Try.prog 89 #[.int .i64 at_, .int .i64 n, .int .i32 c, .bool bad, .pointer (some ⟨yb, 0, none⟩)] W R := by
  have HG := Lib.hid hgood
  have c0 := cell_blk hyb 0 rfl
  simp at c0
  clear hgood
  cases bad with
  | false =>
    clear hY
    refine callsIn_of_wp Try.func89 rfl trivial ?_ rfl
    simp only [Try.ntmps89, List.size_toArray, List.length_cons, List.length_nil, Nat.reduceAdd, Nat.reduceSub, Array.replicate_succ, Array.replicate_zero, List.push_toArray, List.append_toArray, List.nil_append, List.cons_append]
    gi_wp2
    refine ⟨fun _ h => (by cases h), ?_⟩
    gi_wp2
    exact HG.out trivial
  | true =>
    obtain ⟨fn, tmps, assign, body, hy, hR⟩ := hY rfl
    clear hY
    refine callsIn_of_wp Try.func89 rfl trivial ?_ rfl
    simp only [Try.ntmps89, List.size_toArray, List.length_cons, List.length_nil, Nat.reduceAdd, Nat.reduceSub, Array.replicate_succ, Array.replicate_zero, List.push_toArray, List.append_toArray, List.nil_append, List.cons_append]
    gi_wp2
    refine ⟨fun h => (by cases h), ?_⟩
    refine hR.mono ?_
    rintro e W' (⟨rfl, hr⟩ | ⟨rfl, hr⟩)
    · have HRR := Lib.hid hr
      clear hr
      gi_wp2
      exact HRR.out
    · have HRR := Lib.hid hr
      clear hr
      gi_wp2
      exact HRR.out

set_option maxHeartbeats 2000000 in
theorem bad1_in (n : Nat) (l Bn : Nat) (s : ByteArray) (hs : s.size ≤ 1099511627776) {w0 : World} (J Jx : List Pc → World → Prop) (W : World) (hJ : AbidesFrom W.heap.size J)
    (hY : ∀ pre x W1, J pre W1 → pre.length < (badL (pcs s)).length → YieldAt Fence.wide (n - 1) Try.prog l (encBd x) W1 fun e W' =>
      (e = .returned (.bool true) ∧ J (pre ++ [x]) W' ∧ KpY 122 w0.heap.size W1 W') ∨ (e = .returned (.bool false) ∧ Jx (pre ++ [x]) W'))
    (hBn : W.heap[Bn]? = some (.cells #[.string s] 9 (0, 0))) (h0 : J [] W) :
    CallsIn Fence.wide n Try.prog 87 #[.func (.yield l) #[] #[], .pointer (some ⟨Bn, 0, none⟩)] W fun e W' => (∃ v, e = .returned v) ∧
      ((∃ ys, ys = badL (pcs s) ∧ J ys W') ∨ (∃ pre, pre <+: badL (pcs s) ∧ Jx pre W')) := by
  have c0 := cell_blk hBn 0 rfl
  have lB := lt_of_some hBn
  have HY := Lib.hid hY
  have HJ := Lib.hid hJ
  have hyield : ∀ pre x W1, (J (badL pre) W1 ∧ W1.heap[W.heap.size]? = some (.cells #[.func (.yield l) #[] #[]] 122 (0, 0))) → (∃ rest, pcs s = pre ++ x :: rest) → CallsIn Fence.wide (3 - 1) Try.prog 89 #[.int .i64 (x.p : Int), .int .i64 (x.n : Int), .int .i32 (x.c : Int), .bool (!x.ok), .pointer (some ⟨W.heap.size, 0, none⟩)] W1 fun e W' =>
      (e = .returned (.bool true) ∧ (J (badL (pre ++ [x])) W' ∧ W'.heap[W.heap.size]? = some (.cells #[.func (.yield l) #[] #[]] 122 (0, 0))) ∧ KeepsWalks W1 W') ∨ (e = .returned (.bool false) ∧ Jx (badL (pre ++ [x])) W') := by
    rintro pre x W1 ⟨hj, hb⟩ ⟨rest, hrest⟩
    refine bad_yield (3 - 1) l W.heap.size _ _ _ _ _ (fun e W' =>
      (e = .returned (.bool true) ∧ (J (badL (pre ++ [x])) W' ∧ W'.heap[W.heap.size]? = some (.cells #[.func (.yield l) #[] #[]] 122 (0, 0))) ∧ KeepsWalks W1 W') ∨ (e = .returned (.bool false) ∧ Jx (badL (pre ++ [x])) W')) hb ?_ ?_
    · intro hok
      have hok' : x.ok = true := by simpa using hok
      refine .inl ⟨rfl, ⟨?_, hb⟩, KeepsWalks.refl _⟩
      rw [badL_snoc, hok', if_pos rfl, List.append_nil]
      exact hj
    · intro hok
      have hok' : x.ok = false := by simpa using hok
      have hlt : (badL pre).length < (badL (pcs s)).length := by
        rw [hrest]
        simp [badL, hok']
      have e : badL (pre ++ [x]) = badL pre ++ [x] := by rw [badL_snoc, hok']; rfl
      refine (yieldAny rfl (3 - 1 - 1) (HY.out (badL pre) x W1 hj hlt)).mono ?_
      rw [e]
      rintro e W' (⟨rfl, h1, h2⟩ | ⟨rfl, h1⟩)
      · exact .inl ⟨rfl, .inl ⟨rfl, ⟨h1, h2.box _ _ _ hb⟩, h2.walks⟩⟩
      · exact .inr ⟨rfl, .inr ⟨rfl, h1⟩⟩
  have hread := read_in 3 89 W.heap.size (by omega) s (by omega) (fun pre W1 => J (badL pre) W1 ∧ W1.heap[W.heap.size]? = some (.cells #[.func (.yield l) #[] #[]] 122 (0, 0))) (fun pre W1 => Jx (badL pre) W1) (W.alloc (.cells #[.func (.yield l) #[] #[]] 122)) (fun args w => Go.MuLone.run_callFunc_enter (P := Try.prog) (f := 89) (fn := Try.f89) Try.func89 (by kernel_rfl) rfl args w)
    (fun pre A B row hj hg hr => ⟨HJ.out _ A B row hj.1 hg (fun r e => by obtain ⟨h1, h2⟩ := hr r e; exact ⟨by simp at h1; omega, h2⟩), blkGrow hj.2 hg (fun r e => by obtain ⟨_, o, ho, hw⟩ := hr r e; exact ⟨o, ho, Obj.not_cells_of_walk hw⟩)⟩)
    hyield ⟨HJ.out [] W _ none h0 (World.grownBy_alloc W _ none) (fun r e => by cases e), Go.heap_alloc_new W _⟩
  have HR := Lib.hid hread
  simp at c0
  clear hread hyield hY hJ hBn
  refine callsIn_of_wp Try.func87 rfl trivial ?_ rfl
  simp only [Try.ntmps87, List.size_toArray, List.length_cons, List.length_nil, Nat.reduceAdd, Nat.reduceSub, Array.replicate_succ, Array.replicate_zero, List.push_toArray, List.append_toArray, List.nil_append, List.cons_append]
  gi_wp2_with fail
  refine ⟨trivial, fun h => (by cases h), ?_⟩
  refine (callsIn_wide.2 (callsIn_wide.1 HR.out)).mono ?_
  rintro e W' ⟨⟨v, rfl⟩, hor⟩
  have HO := Lib.hid hor
  clear hor
  gi_wp2
  go_end0
  refine ⟨⟨_, rfl⟩, ?_⟩
  rcases HO.out with h | ⟨pre, ⟨r, hr⟩, h⟩
  · exact .inl ⟨_, rfl, h.1⟩
  · exact .inr ⟨badL pre, ⟨badL r, by rw [← hr]; simp [badL]⟩, h⟩

theorem bad_stops (n Bn : Nat) (s : ByteArray) (hs : s.size ≤ 1099511627776) {w0 : World} (w : World) (hBn : w.heap[Bn]? = some (.cells #[.string s] 9 (0, 0))) :
    SeqStopsK Fence.wide n Try.prog 87 #[.pointer (some ⟨Bn, 0, none⟩)] encBd (KpY 122 w0.heap.size) (fun ys => ys = badL (pcs s)) (fun pre => pre <+: badL (pcs s)) (badL (pcs s)).length w := fun l J Jx W hW hJ _ hY h0 =>
  bad1_in n l Bn s hs J Jx W hJ hY ((hW.block _ (lt_of_some hBn)).trans hBn) h0
end Go.Proofs.Ytelhnaphkbpakaa
