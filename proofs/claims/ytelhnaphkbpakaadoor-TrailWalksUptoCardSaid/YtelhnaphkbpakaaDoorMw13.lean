/- fits: does a node have just what its kind has; part: where some of its units end. part: where some of a node's units end; Sub: some of a node's units. at: the place of an attribute; Attr: its value. Attr: an attribute's value. append onto a slice without room, wherever it lies, elements of any size: always a new block. No program. -/
import Derived.Deep.DeepCutAuto
import Derived.Deep.Onto
import Derived.ArgAppend
import Derived.Deep.AppendLies
import Derived.OwnWalkIn
import Derived.Test.YtelhnaphkbpakaaDoorMw12
namespace Go.Proofs.YtelhnaphkbpakaaDoor
open Go.RowKit
set_option linter.unusedVariables false
set_option maxRecDepth 100000

theorem beq0 (n : Nat) : ((n : Int) == 0) = (n == 0) := by cases n <;> rfl
def noName (nm : ByteArray) : Bool := decide (nm.toList = [])
def fitsD (k : Int) (nm : ByteArray) (dl al : Nat) : Bool :=
  if k = 1 then dl == 0
  else if k = 7 then al == 0
  else if k = 3 ∨ k = 8 then noName nm && al == 0
  else if k = 10 then dl == 0 && al == 0
  else if k = 9 ∨ k = 11 then noName nm && dl == 0 && al == 0
  else false

set_option maxHeartbeats 4000000 in
theorem fits_calls (w : World) (N : Nd) (h : NdIn w N) :
    Calls Tryd.prog 98 #[N.v] w fun e w' => e = .returned (.bool (fitsD N.kind N.name N.data.length N.L.length)) ∧ Below w.heap.size w w' := by
  obtain ⟨k, nm, da, dc, data, aa, ac, L, sl, ge⟩ := N
  simp only [Nd.v, Nd.cells] at *
  obtain ⟨n, en⟩ : ∃ n, n = L.length := ⟨_, rfl⟩
  obtain ⟨m, em⟩ : ∃ m, m = data.length := ⟨_, rfl⟩
  have hl1 := h.data.len
  have hl2 := h.attrs.len
  have hl3 := h.nam
  simp only [] at hl1 hl2 hl3
  rw [← en] at hl2 ⊢
  rw [← em] at hl1 ⊢
  clear en em h
  go_enter Tryd.func98, Tryd.ntmps98
  go_wp2_with fail
  all_goals go_ret
  all_goals refine ⟨?_, (by repeat (first | exact Below.refl _ _ | assumption | refine Below.drew ?_ | refine below_drewN ?_ _ | refine Below.alloc ?_ (by simp <;> omega) _ | refine Below.setCell ?_ (by simp <;> omega) _ | (apply bl_trans; assumption; (simp <;> omega))))⟩
  all_goals simp_all [fitsD, noName]
  all_goals first | exact beq0 _ | (rw [beq0] <;> simp_all) | (simp_all [beq0])
end Go.Proofs.YtelhnaphkbpakaaDoor

namespace Go.Proofs.YtelhnaphkbpakaaDoor
open Go.RowKit
set_option linter.unusedVariables false
set_option maxRecDepth 100000

def partD (k off cnt : Int) (m : Nat) : Int × Int :=
  if ¬ (k = 3 ∨ k = 8 ∨ k = 7) then (0, 63)
  else if off < 0 ∨ (m : Int) < off ∨ cnt < 0 then (0, 61)
  else (off + min cnt (m - off), 0)

/-- What Sub tells. -/
def subD (k off cnt : Int) (data : List Nat) : List Nat := (data.drop off.toNat).take ((partD k off cnt data.length).1 - off).toNat
theorem partD_good {k off cnt : Int} {m : Nat} (h : (partD k off cnt m).2 = 0) : (k = 3 ∨ k = 8 ∨ k = 7) ∧ 0 ≤ off ∧ off ≤ (m : Int) ∧ 0 ≤ cnt ∧ partD k off cnt m = (off + min cnt (m - off), 0) := by
  unfold partD at h ⊢
  by_cases h1 : ¬ (k = 3 ∨ k = 8 ∨ k = 7)
  · rw [if_pos h1] at h; simp at h
  · rw [if_neg h1] at h ⊢
    by_cases h2 : off < 0 ∨ (m : Int) < off ∨ cnt < 0
    · rw [if_pos h2] at h; simp at h
    · rw [if_neg h2]
      exact ⟨Decidable.not_not.1 h1, by omega, by omega, by omega, rfl⟩
theorem partD_bad {k off cnt : Int} {m : Nat} (h : (partD k off cnt m).2 ≠ 0) : (partD k off cnt m).1 = 0 ∧ ((partD k off cnt m).2 = 61 ∨ (partD k off cnt m).2 = 63) := by
  unfold partD at h ⊢
  by_cases h1 : ¬ (k = 3 ∨ k = 8 ∨ k = 7)
  · rw [if_pos h1]; simp
  · rw [if_neg h1] at h ⊢
    by_cases h2 : off < 0 ∨ (m : Int) < off ∨ cnt < 0
    · rw [if_pos h2]; simp
    · rw [if_neg h2] at h; simp at h
/-- A slice of a slice. -/
theorem Sl16.part {w : World} {a : Option Addr} {us : List Nat} (h : Sl16 w a us) (i n : Nat) (hn : i + n ≤ us.length) : Sl16 w (a.map (·.add i)) ((us.drop i).take n) := by
  refine ⟨fun j u hu => ?_, by have := h.len; rw [List.length_take, List.length_drop]; omega⟩
  have hj : j < n := by
    have := (List.getElem?_eq_some_iff.1 hu).1
    rw [List.length_take] at this; omega
  rw [List.getElem?_take, if_pos hj, List.getElem?_drop] at hu
  obtain ⟨h1, b, off, h2, h3, h4⟩ := h.at_ _ _ hu
  subst h2
  exact ⟨h1, b, off + i, by simp [Addr.add], h3, by rw [show off + i + j = off + (i + j) by omega]; exact h4⟩

end Go.Proofs.YtelhnaphkbpakaaDoor

namespace Go.Proofs.YtelhnaphkbpakaaDoor
open Go.RowKit
set_option linter.unusedVariables false
set_option maxRecDepth 100000

def isNm (name : ByteArray) (x : LA) : Bool := x.name.toList == name.toList
def atD (L : List LA) (name : ByteArray) : Int := if L.findIdx (isNm name) < L.length then (L.findIdx (isNm name) : Int) else -1

end Go.Proofs.YtelhnaphkbpakaaDoor

namespace Go.Proofs.YtelhnaphkbpakaaDoor
open Go.RowKit
set_option linter.unusedVariables false
set_option maxRecDepth 100000

/-- An attribute's value: of the first of that name. -/
def attrD (l : List (ByteArray × List Nat)) (name : ByteArray) : Option (List Nat) := (l.find? fun x => x.1.toList == name.toList).map Prod.snd
theorem atD_none {L : List LA} {name : ByteArray} (h : L.find? (isNm name) = none) : atD L name = -1 := by
  unfold atD
  rw [if_neg]
  intro h1
  have h2 := List.findIdx_getElem (w := h1)
  have h3 := List.find?_eq_none.1 h _ (List.getElem_mem h1)
  exact h3 h2
theorem atD_some {L : List LA} {name : ByteArray} {x : LA} (h : L.find? (isNm name) = some x) : ∃ i : Nat, i < L.length ∧ L[i]? = some x ∧ atD L name = (i : Int) ∧ isNm name x = true ∧ ∀ j, j < i → ∀ y, L[j]? = some y → isNm name y = false := by
  obtain ⟨h1, i, hi, h2, h3⟩ := List.find?_eq_some_iff_getElem.1 h
  have hf : L.findIdx (isNm name) = i := by
    rw [List.findIdx_eq hi]
    exact ⟨by rw [h2]; exact h1, fun j hj => by simpa using h3 j hj⟩
  refine ⟨i, hi, by rw [List.getElem?_eq_getElem hi, h2], ?_, h1, fun j hj y hy => ?_⟩
  · unfold atD; rw [hf, if_pos hi]
  · have := h3 j hj
    rw [List.getElem?_eq_getElem (by omega)] at hy
    injection hy with hy
    rw [hy] at this
    simpa using this
theorem attrD_find (L : List LA) (name : ByteArray) : attrD (L.map attrOf) name = (L.find? (isNm name)).map LA.val := by
  unfold attrD
  rw [List.find?_map]
  show Option.map Prod.snd (Option.map attrOf (L.find? (isNm name))) = _
  cases L.find? (isNm name) <;> rfl

end Go.Proofs.YtelhnaphkbpakaaDoor

namespace Go.Proofs.YtelhnaphkbpakaaDoor
open Go Go.RowKit
set_option linter.unusedVariables false

section
variable {P : Program} (w : World)
theorem run_append_full (t ty : TypeId) (e : TypeId) (i : TypeInfo) (z : Value) (size bytes : Nat) (ht : P.underlying t = some (.slice e)) (hi : P.info? e = some i) (hz : i.zero = some z)
    (hsize : i.size = size) (hby : i.bytes = bytes) (hzs : z.cells.size = size) (hsz : 0 < size)
    (ao : Option Addr) (n : Nat) (olds : List Value) (hlo : olds.length = n * size) (holds : ∀ j u, olds[j]? = some u → ∃ b, ao = some b ∧ w.cell? (b.add j) = some u) (hnil : ao = none → n = 0)
    (ad : Addr) (m c : Nat) (news : List Value) (hl : news.length = m * size) (hsrc : ∀ j u, news[j]? = some u → w.cell? (ad.add j) = some u) (h1 : ∀ u ∈ news, u.oneCell' = true) (hm : 0 < m)
    (h63 : n + m ≤ maxLen) (hbytes : (n + m) * bytes ≤ 140737488355328) :
    ∃ g c' w', (Builtin.append_ #[t, t] ty #[.slice ao n n, .slice (some ad) m c]).run P w = .ok (.slice (some ⟨g, 0, none⟩) (n + m) c') w' ∧ w'.ownsRow w.heap.size e size (.slice (some ⟨g, 0, none⟩) (n + m) c') (n + m) (olds ++ news) ∧ w.grownBy w' none ∧ w.heap.size ≤ g := by
  cases ao with
  | none =>
    obtain rfl := hnil rfl
    obtain rfl : olds = [] := List.eq_nil_of_length_eq_zero (by simpa using hlo)
    obtain ⟨g, c', w', hr, h2, h3, h4, _⟩ := run_append_lies (P := P) w t ty w.heap.size e i z size bytes ht hi hz hsize hby hzs hsz (.slice none 0 0) 0 [] (World.ownsRow_nil w _ e size) ad m c news hl hsrc h1 hm h63 hbytes (Nat.le_refl _) _ rfl
    refine ⟨g, c', w', hr, h2, h3, ?_⟩
    rcases h4 with h4 | h4
    · cases h4
    · exact Nat.le_of_eq h4.symm
  | some b =>
    obtain ⟨v', w', hr, r1, r2⟩ := run_append_arg_grows (P := P) w t ty e i z size bytes ht hi hz hsize hby hzs hsz b n n olds hlo (fun j u hj => by obtain ⟨b', hb, hc⟩ := holds j u hj; cases hb; exact hc) ad m c news hl hsrc (by omega) h63 hbytes
    obtain ⟨g', cap', rfl, hg, _⟩ := r1.form (by omega)
    exact ⟨g', cap', w', hr, r1, r2, hg⟩

theorem step_append_full {ops : Array Oper} {o : Oper} {a : Act} {K : Act → World → Prop} {Q : Exit → Act → World → Prop} {E : Prop} (hgd : o.guard = none) (s x : Operand) (t : TypeId)
    (ho : o.op = .call { callee := .builtin .append, args := #[s, x], argTypes := #[t, t] })
    (e : TypeId) (i : TypeInfo) (z : Value) (size bytes : Nat) (ht : P.underlying t = some (.slice e)) (hi : P.info? e = some i) (hz : i.zero = some z)
    (hsize : i.size = size) (hby : i.bytes = bytes) (hzs : z.cells.size = size) (hsz : 0 < size)
    (ao : Option Addr) (n : Nat) (olds : List Value) (hs : a.eval s = .slice ao n n) (hlo : olds.length = n * size) (holds : ∀ j u, olds[j]? = some u → ∃ b, ao = some b ∧ w.cell? (b.add j) = some u) (hnil : ao = none → n = 0)
    (ad : Addr) (m c : Nat) (news : List Value) (hx : a.eval x = .slice (some ad) m c) (hl : news.length = m * size) (hsrc : ∀ j u, news[j]? = some u → w.cell? (ad.add j) = some u) (h1 : ∀ u ∈ news, u.oneCell' = true) (hm : 0 < m)
    (h63 : n + m ≤ maxLen) (hbytes : (n + m) * bytes ≤ 140737488355328)
    (h : ∀ g c' w', w'.ownsRow w.heap.size e size (.slice (some ⟨g, 0, none⟩) (n + m) c') (n + m) (olds ++ news) → w.grownBy w' none → w.heap.size ≤ g → K (a.put o.dst (.slice (some ⟨g, 0, none⟩) (n + m) c')) w') :
    if Region.wanted o (yielded ops a.tmps) = true then Oper.wp P o a w K Q else E := by
  have hw : Region.wanted o (yielded ops a.tmps) = true := by simp [Region.wanted, hgd]
  rw [if_pos hw]
  obtain ⟨g, c', w', hr, h2, h3, h4⟩ := run_append_full (P := P) w t o.type e i z size bytes ht hi hz hsize hby hzs hsz ao n olds hlo holds hnil ad m c news hl hsrc h1 hm h63 hbytes
  unfold Oper.wp
  simp [execOp, ho, resolve, invoke, builtin, hs, hx, hr, Result.andThen]
  exact h g c' w' h2 h3 h4

theorem wpList_append_full {ops : Array Oper} {rest : List Oper} {o : Oper} {a : Act} {Q : Exit → Act → World → Prop} (hgd : o.guard = none) (s x : Operand) (t : TypeId)
    (ho : o.op = .call { callee := .builtin .append, args := #[s, x], argTypes := #[t, t] })
    (e : TypeId) (i : TypeInfo) (z : Value) (size bytes : Nat) (ht : P.underlying t = some (.slice e)) (hi : P.info? e = some i) (hz : i.zero = some z)
    (hsize : i.size = size) (hby : i.bytes = bytes) (hzs : z.cells.size = size) (hsz : 0 < size)
    (ao : Option Addr) (n : Nat) (olds : List Value) (hs : a.eval s = .slice ao n n) (hlo : olds.length = n * size) (holds : ∀ j u, olds[j]? = some u → ∃ b, ao = some b ∧ w.cell? (b.add j) = some u) (hnil : ao = none → n = 0)
    (ad : Addr) (m c : Nat) (news : List Value) (hx : a.eval x = .slice (some ad) m c) (hl : news.length = m * size) (hsrc : ∀ j u, news[j]? = some u → w.cell? (ad.add j) = some u) (h1 : ∀ u ∈ news, u.oneCell' = true) (hm : 0 < m)
    (h63 : n + m ≤ maxLen) (hbytes : (n + m) * bytes ≤ 140737488355328)
    (h : ∀ g c' w', w'.ownsRow w.heap.size e size (.slice (some ⟨g, 0, none⟩) (n + m) c') (n + m) (olds ++ news) → w.grownBy w' none → w.heap.size ≤ g → wpList P ops Q rest (a.put o.dst (.slice (some ⟨g, 0, none⟩) (n + m) c')) w') : wpList P ops Q (o :: rest) a w := by
  obtain ⟨g, c', w', hr, h2, h3, h4⟩ := run_append_full (P := P) w t o.type e i z size bytes ht hi hz hsize hby hzs hsz ao n olds hlo holds hnil ad m c news hl hsrc h1 hm h63 hbytes
  exact Lib.wpList_append_run w hgd s x t t ho _ _ hs hx _ w' hr (h g c' w' h2 h3 h4)
end
end Go.Proofs.YtelhnaphkbpakaaDoor

