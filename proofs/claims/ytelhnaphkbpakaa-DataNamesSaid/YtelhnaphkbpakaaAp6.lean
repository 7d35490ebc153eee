/- append onto a slice without room, wherever it lies, elements of any size: always a new block. No program. -/
import Derived.Test.YtelhnaphkbpakaaRw
import Derived.Test.YtelhnaphkbpakaaApn
import Derived.ArgAppend
import Derived.Deep.Onto
import Derived.Deep.AppendLies
import Derived.OwnWalkIn
namespace Go.Proofs.Ytelhnaphkbpakaa
open Go Go.RowKit
set_option linter.unusedVariables false

section
variable {P : Program} (w : World)
theorem run_append_full (t ty : TypeId) (e : TypeId) (i : TypeInfo) (z : Value) (size bytes : Nat) (ht : P.underlying t = some (.slice e)) (hi : P.info? e = some i) (hz : i.zero = some z)
    (hsize : i.size = size) (hby : i.bytes = bytes) (hzs : z.cells.size = size) (hsz : 0 < size)
    (ao : Option Addr) (n : Nat) (olds : List Value) (hlo : olds.length = n * size) (holds : ∀ j u, olds[j]? = some u → ∃ b, ao = some b ∧ w.cell? (b.add j) = some u) (hnil : ao = none → n = 0)
    (ad : Addr) (m c : Nat) (news : List Value) (hl : news.length = m * size) (hsrc : ∀ j u, news[j]? = some u → w.cell? (ad.add j) = some u) (h1 : ∀ u ∈ news, u.oneCell' = true) (hm : 0 < m)
    (h63 : n + m ≤ maxLen) (hbytes : (n + m) * bytes ≤ 140737488355328) :
    ∃ g c' w', (Builtin.append_ #[t, t] ty #[.slice ao n n, .slice (some ad) m c]).run P w = .ok (.slice (some ⟨g, 0, none⟩) (n + m) c') w' ∧ w'.ownsRow w.heap.size e size (.slice (some ⟨g, 0, none⟩) (n + m) c') (n + m) (olds ++ news) ∧ w.grownBy w' none ∧ w.heap.size ≤ g := by
  cases ao with
  | none =>
    obtain rfl := hnil rfl
    obtain rfl : olds = [] := List.eq_nil_of_length_eq_zero (by simpa using hlo)
    obtain ⟨g, c', w', hr, h2, h3, h4, _⟩ := run_append_lies (P := P) w t ty w.heap.size e i z size bytes ht hi hz hsize hby hzs hsz (.slice none 0 0) 0 [] (World.ownsRow_nil w _ e size) ad m c news hl hsrc h1 hm h63 hbytes (Nat.le_refl _) _ rfl
    refine ⟨g, c', w', hr, h2, h3, ?_⟩
    rcases h4 with h4 | h4
    · cases h4
    · exact Nat.le_of_eq h4.symm
  | some b =>
    obtain ⟨v', w', hr, r1, r2⟩ := run_append_arg_grows (P := P) w t ty e i z size bytes ht hi hz hsize hby hzs hsz b n n olds hlo (fun j u hj => by obtain ⟨b', hb, hc⟩ := holds j u hj; cases hb; exact hc) ad m c news hl hsrc (by omega) h63 hbytes
    obtain ⟨g', cap', rfl, hg, _⟩ := r1.form (by omega)
    exact ⟨g', cap', w', hr, r1, r2, hg⟩

theorem step_append_full {ops : Array Oper} {o : Oper} {a : Act} {K : Act → World → Prop} {Q : Exit → Act → World → Prop} {E : Prop} (hgd : o.guard = none) (s x : Operand) (t : TypeId)
    (ho : o.op = .call { callee := .builtin .append, args := #[s, x], argTypes := #[t, t] })
    (e : TypeId) (i : TypeInfo) (z : Value) (size bytes : Nat) (ht : P.underlying t = some (.slice e)) (hi : P.info? e = some i) (hz : i.zero = some z)
    (hsize : i.size = size) (hby : i.bytes = bytes) (hzs : z.cells.size = size) (hsz : 0 < size)
    (ao : Option Addr) (n : Nat) (olds : List Value) (hs : a.eval s = .slice ao n n) (hlo : olds.length = n * size) (holds : ∀ j u, olds[j]? = some u → ∃ b, ao = some b ∧ w.cell? (b.add j) = some u) (hnil : ao = none → n = 0)
    (ad : Addr) (m c : Nat) (news : List Value) (hx : a.eval x = .slice (some ad) m c) (hl : news.length = m * size) (hsrc : ∀ j u, news[j]? = some u → w.cell? (ad.add j) = some u) (h1 : ∀ u ∈ news, u.oneCell' = true) (hm : 0 < m)
    (h63 : n + m ≤ maxLen) (hbytes : (n + m) * bytes ≤ 140737488355328)
    (h : ∀ g c' w', w'.ownsRow w.heap.size e size (.slice (some ⟨g, 0, none⟩) (n + m) c') (n + m) (olds ++ news) → w.grownBy w' none → w.heap.size ≤ g → K (a.put o.dst (.slice (some ⟨g, 0, none⟩) (n + m) c')) w') :
    if Region.wanted o (yielded ops a.tmps) = true then Oper.wp P o a w K Q else E := by
  have hw : Region.wanted o (yielded ops a.tmps) = true := by simp [Region.wanted, hgd]
  rw [if_pos hw]
  obtain ⟨g, c', w', hr, h2, h3, h4⟩ := run_append_full (P := P) w t o.type e i z size bytes ht hi hz hsize hby hzs hsz ao n olds hlo holds hnil ad m c news hl hsrc h1 hm h63 hbytes
  unfold Oper.wp
  simp [execOp, ho, resolve, invoke, builtin, hs, hx, hr, Result.andThen]
  exact h g c' w' h2 h3 h4

theorem wpList_append_full {ops : Array Oper} {rest : List Oper} {o : Oper} {a : Act} {Q : Exit → Act → World → Prop} (hgd : o.guard = none) (s x : Operand) (t : TypeId)
    (ho : o.op = .call { callee := .builtin .append, args := #[s, x], argTypes := #[t, t] })
    (e : TypeId) (i : TypeInfo) (z : Value) (size bytes : Nat) (ht : P.underlying t = some (.slice e)) (hi : P.info? e = some i) (hz : i.zero = some z)
    (hsize : i.size = size) (hby : i.bytes = bytes) (hzs : z.cells.size = size) (hsz : 0 < size)
    (ao : Option Addr) (n : Nat) (olds : List Value) (hs : a.eval s = .slice ao n n) (hlo : olds.length = n * size) (holds : ∀ j u, olds[j]? = some u → ∃ b, ao = some b ∧ w.cell? (b.add j) = some u) (hnil : ao = none → n = 0)
    (ad : Addr) (m c : Nat) (news : List Value) (hx : a.eval x = .slice (some ad) m c) (hl : news.length = m * size) (hsrc : ∀ j u, news[j]? = some u → w.cell? (ad.add j) = some u) (h1 : ∀ u ∈ news, u.oneCell' = true) (hm : 0 < m)
    (h63 : n + m ≤ maxLen) (hbytes : (n + m) * bytes ≤ 140737488355328)
    (h : ∀ g c' w', w'.ownsRow w.heap.size e size (.slice (some ⟨g, 0, none⟩) (n + m) c') (n + m) (olds ++ news) → w.grownBy w' none → w.heap.size ≤ g → wpList P ops Q rest (a.put o.dst (.slice (some ⟨g, 0, none⟩) (n + m) c')) w') : wpList P ops Q (o :: rest) a w := by
  obtain ⟨g, c', w', hr, h2, h3, h4⟩ := run_append_full (P := P) w t o.type e i z size bytes ht hi hz hsize hby hzs hsz ao n olds hlo holds hnil ad m c news hl hsrc h1 hm h63 hbytes
  exact Lib.wpList_append_run w hgd s x t t ho _ _ hs hx _ w' hr (h g c' w' h2 h3 h4)
end
end Go.Proofs.Ytelhnaphkbpakaa
