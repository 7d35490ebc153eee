/- append onto a row of the call's own, or onto such a row's slice that has no room behind it. No program. -/
import Derived.Test.YtelhnaphkbpakaaRw
import Derived.ArgAppend
import Derived.Deep.Onto
import Derived.OwnWalkIn
namespace Go.Proofs.Ytelhnaphkbpakaa
open Go Go.RowKit
set_option linter.unusedVariables false

/-- A slice over a row of the call's own; its capacity is the row's, or its own length. -/
def AppOk (w : World) (base : Nat) (e : TypeId) (v : Value) (n : Nat) (xs : List Value) : Prop :=
  w.ownsRow base e 1 v n xs ∨ ∃ a cap, v = .slice a n n ∧ w.ownsRow base e 1 (.slice a n cap) n xs
theorem AppOk.own {w : World} {base : Nat} {e : TypeId} {v : Value} {n : Nat} {xs : List Value} (h : w.ownsRow base e 1 v n xs) : AppOk w base e v n xs := .inl h
theorem AppOk.slice {w : World} {base : Nat} {e : TypeId} {v : Value} {n : Nat} {xs : List Value} (h : AppOk w base e v n xs) : ∃ a cap, v = .slice a n cap := by
  rcases h with h | ⟨a, cap, rfl, _⟩
  · exact rwSlice h
  · exact ⟨a, n, rfl⟩

theorem AppOk.alloc {w : World} {base : Nat} {e : TypeId} {v : Value} {n : Nat} {xs : List Value} (h : AppOk w base e v n xs) (o : Obj) : AppOk (w.alloc o) base e v n xs :=
  h.imp (fun h => h.alloc o) (fun ⟨a, c, e, h⟩ => ⟨a, c, e, h.alloc o⟩)

/-- w' is w, but for new blocks and for the block of that slice. -/
theorem grown_trans {w w1 w2 : World} {g r : Option Nat} (h : w.grownBy w1 g) (k : w1.grownBy w2 r) (hr : ∀ x, r = some x → g = some x ∨ w.heap.size ≤ x) : w.grownBy w2 g :=
  ⟨k.os.trans h.os, k.tape.trans h.tape, k.output.trans h.output, Nat.le_trans h.size k.size, fun i hi hne => by
    refine (k.block i (Nat.lt_of_lt_of_le hi h.size) ?_).trans (h.block i hi hne)
    intro e
    rcases hr i e.symm with h1 | h1
    · exact hne h1.symm
    · omega⟩
theorem grown_self (w : World) (g : Option Nat) : w.grownBy w g := ⟨rfl, rfl, rfl, Nat.le_refl _, fun _ _ _ => rfl⟩
theorem grown_set (w : World) (a : Addr) (v : Value) : w.grownBy (w.setCell a v) (some a.block) :=
  ⟨rfl, rfl, rfl, by simp, fun i hi hne => heap_setCell_other w a i v (fun e => hne (by rw [e]))⟩
theorem grown_alloc (w : World) (o : Obj) (g : Option Nat) : w.grownBy (w.alloc o) g :=
  ⟨rfl, rfl, rfl, by simp, fun i hi _ => Below.heap_alloc w o i hi⟩
theorem grown_drewN (w : World) (k : Nat) (g : Option Nat) : w.grownBy (w.drewN k) g := ⟨rfl, rfl, rfl, Nat.le_refl _, fun _ _ _ => rfl⟩
/-- What lies below a block stands, if that block alone is turned. -/
theorem grown_below {w w' : World} {g : Option Nat} {B : Nat} (h : w.grownBy w' g) (hB : ∀ x, g = some x → B ≤ x) (hs : B ≤ w.heap.size) : Below B w w' :=
  ⟨h.os, h.tape, h.output, h.size, fun k hk => h.block k (by omega) (fun e => by have := hB k e.symm; omega)⟩
theorem grown_blk {w w' : World} {g : Option Nat} (h : w.grownBy w' g) {b : Nat} {o : Obj} (hb : w.heap[b]? = some o) (hne : g ≠ some b) : w'.heap[b]? = some o :=
  (h.block b (lt_of_some hb) (fun e => hne e.symm)).trans hb
theorem grown_row {w w' : World} {g : Option Nat} (hg : w.grownBy w' g) {base : Nat} {e : TypeId} {size : Nat} {v : Value} {n : Nat} {xs : List Value} (h : w.ownsRow base e size v n xs) (hne : ∀ x, v.ownBlock = some x → g ≠ some x) : w'.ownsRow base e size v n xs := by
  refine h.kept hg ?_
  rcases h.2 with ⟨rfl, _⟩ | ⟨x, cap, cur, rfl, _, hg', _⟩
  · exact .inl rfl
  · exact .inr (fun e => hne x rfl e.symm)

section
variable {P : Program} (w : World)
theorem run_append_ok (t ty : TypeId) (base : Nat) (e : TypeId) (i : TypeInfo) (z : Value) (bytes : Nat) (ht : P.underlying t = some (.slice e)) (hi : P.info? e = some i) (hz : i.zero = some z)
    (hsize : i.size = 1) (hby : i.bytes = bytes) (hzs : z.cells.size = 1)
    (v : Value) (n : Nat) (xs : List Value) (hown : AppOk w base e v n xs)
    (ad : Addr) (m c : Nat) (news : List Value) (hl : news.length = m) (hsrc : ∀ j u, news[j]? = some u → w.cell? (ad.add j) = some u) (h1 : ∀ u ∈ news, u.oneCell' = true) (hm : 0 < m)
    (h63 : n + m ≤ maxLen) (hbytes : (n + m) * bytes ≤ 140737488355328) (hbase : base ≤ w.heap.size) :
    ∃ g c' w', (Builtin.append_ #[t, t] ty #[v, .slice (some ad) m c]).run P w = .ok (.slice (some ⟨g, 0, none⟩) (n + m) c') w' ∧ w'.ownsRow base e 1 (.slice (some ⟨g, 0, none⟩) (n + m) c') (n + m) (xs ++ news) ∧ w.grownBy w' v.ownBlock ∧ (v.ownBlock = some g ∨ w.heap.size ≤ g) := by
  rcases hown with hown | ⟨a0, cap, rfl, hown⟩
  · obtain ⟨g, c', w', hr, h2, h3, h4, _⟩ := run_append_lies (P := P) w t ty base e i z 1 bytes ht hi hz hsize hby hzs (by omega) v n xs hown ad m c news (by omega) hsrc h1 hm h63 hbytes hbase _ rfl
    exact ⟨g, c', w', hr, h2, h3, h4.imp id (fun e => by omega)⟩
  · rcases hown.2 with ⟨h5, h6⟩ | ⟨g, cap', cur, h5, _⟩
    · obtain ⟨ha, _⟩ : a0 = none ∧ n = 0 ∧ cap = 0 := by simpa using h5
      subst ha h6
      obtain ⟨g, c', w', hr, h2, h3, h4, _⟩ := run_append_lies (P := P) w t ty base e i z 1 bytes ht hi hz hsize hby hzs (by omega) (.slice none 0 0) 0 xs (by rw [show xs = [] from List.eq_nil_of_length_eq_zero (by simpa using hown.1)]; exact World.ownsRow_nil w base e 1) ad m c news (by omega) hsrc h1 hm h63 hbytes hbase _ rfl
      exact ⟨g, c', w', hr, h2, h3, h4.imp id (fun e => by omega)⟩
    · obtain ⟨rfl, rfl⟩ : a0 = some ⟨g, 0, none⟩ ∧ cap = cap' := by simpa using h5
      obtain ⟨v', w', hr, r1, r2⟩ := run_append_arg_grows (P := P) w t ty e i z 1 bytes ht hi hz hsize hby hzs (by omega) ⟨g, 0, none⟩ n n xs hown.1 (fun j u hj => hown.cells rfl j u hj) ad m c news (by omega) hsrc (by omega) h63 hbytes
      obtain ⟨g', cap', rfl, hg, _⟩ := r1.form (by omega)
      exact ⟨g', cap', w', hr, r1.mono hbase, grown_trans (grown_self w _) r2 (fun _ e => by cases e), .inr hg⟩

theorem wpList_append_ok {ops : Array Oper} {rest : List Oper} {o : Oper} {a : Act} {Q : Exit → Act → World → Prop} (hgd : o.guard = none) (s x : Operand) (t : TypeId)
    (ho : o.op = .call { callee := .builtin .append, args := #[s, x], argTypes := #[t, t] })
    (base : Nat) (e : TypeId) (i : TypeInfo) (z : Value) (bytes : Nat) (ht : P.underlying t = some (.slice e)) (hi : P.info? e = some i) (hz : i.zero = some z)
    (hsize : i.size = 1) (hby : i.bytes = bytes) (hzs : z.cells.size = 1)
    (v : Value) (n : Nat) (xs : List Value) (hs : a.eval s = v) (hown : AppOk w base e v n xs)
    (ad : Addr) (m c : Nat) (news : List Value) (hx : a.eval x = .slice (some ad) m c) (hl : news.length = m) (hsrc : ∀ j u, news[j]? = some u → w.cell? (ad.add j) = some u) (h1 : ∀ u ∈ news, u.oneCell' = true) (hm : 0 < m)
    (h63 : n + m ≤ maxLen) (hbytes : (n + m) * bytes ≤ 140737488355328) (hbase : base ≤ w.heap.size)
    (h : ∀ g c' w', w'.ownsRow base e 1 (.slice (some ⟨g, 0, none⟩) (n + m) c') (n + m) (xs ++ news) → w.grownBy w' v.ownBlock → (v.ownBlock = some g ∨ w.heap.size ≤ g) → wpList P ops Q rest (a.put o.dst (.slice (some ⟨g, 0, none⟩) (n + m) c')) w') : wpList P ops Q (o :: rest) a w := by
  obtain ⟨g, c', w', hr, h2, h3, h4⟩ := run_append_ok (P := P) w t o.type base e i z bytes ht hi hz hsize hby hzs v n xs hown ad m c news hl hsrc h1 hm h63 hbytes hbase
  refine wpList_plain hgd fun K hK => ?_
  unfold Oper.wp
  simp [execOp, ho, resolve, invoke, builtin, hs, hx, hr, Result.andThen]
  exact hK _ _ (h g c' w' h2 h3 h4)
theorem wpListIn_append_ok {F : Fence} {nF : Nat} {ops : Array Oper} {rest : List Oper} {o : Oper} {a : Act} {Q : Exit → Act → World → Prop} (hgd : o.guard = none) (s x : Operand) (t : TypeId)
    (ho : o.op = .call { callee := .builtin .append, args := #[s, x], argTypes := #[t, t] })
    (base : Nat) (e : TypeId) (i : TypeInfo) (z : Value) (bytes : Nat) (ht : P.underlying t = some (.slice e)) (hi : P.info? e = some i) (hz : i.zero = some z)
    (hsize : i.size = 1) (hby : i.bytes = bytes) (hzs : z.cells.size = 1)
    (v : Value) (n : Nat) (xs : List Value) (hs : a.eval s = v) (hown : AppOk w base e v n xs)
    (ad : Addr) (m c : Nat) (news : List Value) (hx : a.eval x = .slice (some ad) m c) (hl : news.length = m) (hsrc : ∀ j u, news[j]? = some u → w.cell? (ad.add j) = some u) (h1 : ∀ u ∈ news, u.oneCell' = true) (hm : 0 < m)
    (h63 : n + m ≤ maxLen) (hbytes : (n + m) * bytes ≤ 140737488355328) (hbase : base ≤ w.heap.size)
    (h : ∀ g c' w', w'.ownsRow base e 1 (.slice (some ⟨g, 0, none⟩) (n + m) c') (n + m) (xs ++ news) → w.grownBy w' v.ownBlock → (v.ownBlock = some g ∨ w.heap.size ≤ g) → wpListIn F nF P ops Q rest (a.put o.dst (.slice (some ⟨g, 0, none⟩) (n + m) c')) w') : wpListIn F nF P ops Q (o :: rest) a w := by
  obtain ⟨g, c', w', hr, h2, h3, h4⟩ := run_append_ok (P := P) w t o.type base e i z bytes ht hi hz hsize hby hzs v n xs hown ad m c news hl hsrc h1 hm h63 hbytes hbase
  refine wpListIn_plain hgd fun K hK => ?_
  unfold Oper.wpIn
  refine ⟨by simp [Oper.about, ho, resolve, Target.leads, Sem.run_pure], ?_⟩
  rw [Oper.semAt_plain F _ _ (by rw [ho]; intro c hc'; cases hc')]
  simp [execOp, ho, resolve, invoke, builtin, hs, hx, hr, Result.andThen]
  exact hK _ _ (h g c' w' h2 h3 h4)
end
end Go.Proofs.Ytelhnaphkbpakaa
