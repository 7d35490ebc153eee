/- Attr: an attribute's value. append onto a slice without room, wherever it lies, elements of any size: always a new block. No program. -/
import Derived.ArgAppend
import Derived.Deep.Onto
import Derived.Deep.AppendLies
import Derived.OwnWalkIn
import Derived.Test.YtelhnaphkbpakaaMc9
namespace Go.Proofs.Ytelhnaphkbpakaa
open Go.RowKit
set_option linter.unusedVariables false
set_option maxRecDepth 100000

/-- An attribute's value: of the first of that name. -/
def attrD (l : List (ByteArray × List Nat)) (name : ByteArray) : Option (List Nat) := (l.find? fun x => x.1.toList == name.toList).map Prod.snd
theorem atD_none {L : List LA} {name : ByteArray} (h : L.find? (isNm name) = none) : atD L name = -1 := by
  unfold atD
  rw [if_neg]
  intro h1
  have h2 := List.findIdx_getElem (w := h1)
  have h3 := List.find?_eq_none.1 h _ (List.getElem_mem h1)
  exact h3 h2
theorem atD_some {L : List LA} {name : ByteArray} {x : LA} (h : L.find? (isNm name) = some x) : ∃ i : Nat, i < L.length ∧ L[i]? = some x ∧ atD L name = (i : Int) ∧ isNm name x = true ∧ ∀ j, j < i → ∀ y, L[j]? = some y → isNm name y = false := by
  obtain ⟨h1, i, hi, h2, h3⟩ := List.find?_eq_some_iff_getElem.1 h
  have hf : L.findIdx (isNm name) = i := by
    rw [List.findIdx_eq hi]
    exact ⟨by rw [h2]; exact h1, fun j hj => by simpa using h3 j hj⟩
  refine ⟨i, hi, by rw [List.getElem?_eq_getElem hi, h2], ?_, h1, fun j hj y hy => ?_⟩
  · unfold atD; rw [hf, if_pos hi]
  · have := h3 j hj
    rw [List.getElem?_eq_getElem (by omega)] at hy
    injection hy with hy
    rw [hy] at this
    simpa using this
theorem attrD_find (L : List LA) (name : ByteArray) : attrD (L.map attrOf) name = (L.find? (isNm name)).map LA.val := by
  unfold attrD
  rw [List.find?_map]
  show Option.map Prod.snd (Option.map attrOf (L.find? (isNm name))) = _
  cases L.find? (isNm name) <;> rfl

set_option maxHeartbeats 4000000 in
theorem attr_calls (w : World) (N : Nd) (h : NdIn w N) (hB : N.Bd 1099511627776) (name : ByteArray) :
    Calls Try.prog 29 #[N.v, .string name] w fun e w' => Below w.heap.size w w' ∧
      ((N.kind ≠ 1 ∧ e = .returned (.tuple #[.slice none 0 0, .bool false, .int .i64 63])) ∨
       (N.kind = 1 ∧ attrD (N.L.map attrOf) name = none ∧ e = .returned (.tuple #[.slice none 0 0, .bool false, .int .i64 0])) ∨
       (N.kind = 1 ∧ ∃ us a, attrD (N.L.map attrOf) name = some us ∧ e = .returned (.tuple #[.slice a us.length us.length, .bool true, .int .i64 0]) ∧ Clip16 w.heap.size w' a us)) := by
  have hat := fun w' (b : Below w.heap.size w w') => at_calls w' N (h.below b) name
  have hA := h.attrs
  obtain ⟨k, nm, da, dc, data, aa, ac, L, sl, ge⟩ := N
  have hv := hB.val
  simp only [Nd.v, Nd.cells] at *
  rw [attrD_find]
  obtain ⟨n, en⟩ : ∃ n, n = L.length := ⟨_, rfl⟩
  rw [← en] at hat ⊢
  have HN := Lib.hid en
  have HA := Lib.hid hA
  have HV := Lib.hid hv
  clear en hA h hB hv
  have hb0 : Below w.heap.size w (w.alloc (.cells #[.int .i64 k, .string nm, .slice da data.length dc, .slice aa n ac, .int .u32 sl, .int .u32 ge] 30)) := (Below.refl _ w).alloc (Nat.le_refl _) _
  have HB0 := Lib.hid hb0
  have HAT := Lib.hid (hat _ hb0)
  clear hb0 hat
  by_cases hk : k = 1
  · subst hk
    cases hf : L.find? (isNm name) with
    | none =>
      have HAT2 := HAT.out
      rw [atD_none hf] at HAT2
      have HAT3 := Lib.hid HAT2
      clear HAT2 HAT hf
      go_enter Try.func29, Try.ntmps29
      go_wp2_with (go_at_call 71; refine HAT3.out.mono ?_; rintro e w1 ⟨rfl, b1⟩)
      exact bodyPost_ret (v := .tuple #[.slice none 0 0, .bool false, .int .i64 0]) (by simp [results, Try.results29, go_sem]) rfl ⟨HB0.out.trans (b1.mono (by simp)), .inr (.inl ⟨trivial, rfl, rfl⟩)⟩
    | some x =>
      obtain ⟨i, hi, hx, hia, _, _⟩ := atD_some hf
      rw [← HN.out] at hi
      have HAT2 := HAT.out
      rw [hia] at HAT2
      have HAT3 := Lib.hid HAT2
      have HXV := Lib.hid (HV.out x (List.mem_of_getElem? hx))
      have HX := Lib.hid hx
      clear HAT2 HAT hf hx hia
      have p1 : (i : Int) < (n : Int) := by omega
      have p2 : (0 : Int) ≤ (i : Int) := by omega
      go_enter Try.func29, Try.ntmps29
      go_wp2_with fail
      refine HAT3.out.mono ?_
      rintro e w1 ⟨rfl, b1⟩
      have x0 := (b1.block w.heap.size (by simp)).trans (Go.heap_alloc_new w _)
      have c3 := cell_blk x0 3 rfl
      have l0 := lt_of_some x0
      simp at c3
      have B1 := Lib.hid (HB0.out.trans (b1.mono (by simp)))
      clear b1 x0
      obtain ⟨bb, off, rfl, hbl, c1, c2⟩ := (HA.out.below B1.out).get HX.out
      have HO := Lib.hid (own_calls w1 x.vc ((HA.out.below B1.out).val x (List.mem_of_getElem? HX.out)) HXV.out)
      have hs1 : w.heap.size ≤ w1.heap.size := by omega
      go_wp2_with (go_at_call 64; refine HO.out.mono ?_; rintro e w2 ⟨a', rfl, hc2, b2⟩)
      exact bodyPost_ret (v := .tuple #[.slice a' x.val.length x.val.length, .bool true, .int .i64 0]) (by simp [results, Try.results29, go_sem]) rfl ⟨B1.out.trans (b2.mono hs1), .inr (.inr ⟨trivial, x.val, a', rfl, rfl, ⟨by obtain ⟨cap, hr⟩ := hc2.row; exact ⟨cap, hr.mono hs1⟩, hc2.bnd, hc2.len⟩⟩)⟩
  · have hk2 : (k == 1) = false := by simpa using hk
    go_enter Try.func29, Try.ntmps29
    go_wp2
    exact bodyPost_ret (v := .tuple #[.slice none 0 0, .bool false, .int .i64 63]) (by simp [results, Try.results29, go_sem]) rfl ⟨HB0.out, .inl ⟨hk, rfl⟩⟩
end Go.Proofs.Ytelhnaphkbpakaa

namespace Go.Proofs.Ytelhnaphkbpakaa
open Go Go.RowKit
set_option linter.unusedVariables false

section
variable {P : Program} (w : World)
theorem run_append_full (t ty : TypeId) (e : TypeId) (i : TypeInfo) (z : Value) (size bytes : Nat) (ht : P.underlying t = some (.slice e)) (hi : P.info? e = some i) (hz : i.zero = some z)
    (hsize : i.size = size) (hby : i.bytes = bytes) (hzs : z.cells.size = size) (hsz : 0 < size)
    (ao : Option Addr) (n : Nat) (olds : List Value) (hlo : olds.length = n * size) (holds : ∀ j u, olds[j]? = some u → ∃ b, ao = some b ∧ w.cell? (b.add j) = some u) (hnil : ao = none → n = 0)
    (ad : Addr) (m c : Nat) (news : List Value) (hl : news.length = m * size) (hsrc : ∀ j u, news[j]? = some u → w.cell? (ad.add j) = some u) (h1 : ∀ u ∈ news, u.oneCell' = true) (hm : 0 < m)
    (h63 : n + m ≤ maxLen) (hbytes : (n + m) * bytes ≤ 140737488355328) :
    ∃ g c' w', (Builtin.append_ #[t, t] ty #[.slice ao n n, .slice (some ad) m c]).run P w = .ok (.slice (some ⟨g, 0, none⟩) (n + m) c') w' ∧ w'.ownsRow w.heap.size e size (.slice (some ⟨g, 0, none⟩) (n + m) c') (n + m) (olds ++ news) ∧ w.grownBy w' none ∧ w.heap.size ≤ g := by
  cases ao with
  | none =>
    obtain rfl := hnil rfl
    obtain rfl : olds = [] := List.eq_nil_of_length_eq_zero (by simpa using hlo)
    obtain ⟨g, c', w', hr, h2, h3, h4, _⟩ := run_append_lies (P := P) w t ty w.heap.size e i z size bytes ht hi hz hsize hby hzs hsz (.slice none 0 0) 0 [] (World.ownsRow_nil w _ e size) ad m c news hl hsrc h1 hm h63 hbytes (Nat.le_refl _) _ rfl
    refine ⟨g, c', w', hr, h2, h3, ?_⟩
    rcases h4 with h4 | h4
    · cases h4
    · exact Nat.le_of_eq h4.symm
  | some b =>
    obtain ⟨v', w', hr, r1, r2⟩ := run_append_arg_grows (P := P) w t ty e i z size bytes ht hi hz hsize hby hzs hsz b n n olds hlo (fun j u hj => by obtain ⟨b', hb, hc⟩ := holds j u hj; cases hb; exact hc) ad m c news hl hsrc (by omega) h63 hbytes
    obtain ⟨g', cap', rfl, hg, _⟩ := r1.form (by omega)
    exact ⟨g', cap', w', hr, r1, r2, hg⟩

theorem step_append_full {ops : Array Oper} {o : Oper} {a : Act} {K : Act → World → Prop} {Q : Exit → Act → World → Prop} {E : Prop} (hgd : o.guard = none) (s x : Operand) (t : TypeId)
    (ho : o.op = .call { callee := .builtin .append, args := #[s, x], argTypes := #[t, t] })
    (e : TypeId) (i : TypeInfo) (z : Value) (size bytes : Nat) (ht : P.underlying t = some (.slice e)) (hi : P.info? e = some i) (hz : i.zero = some z)
    (hsize : i.size = size) (hby : i.bytes = bytes) (hzs : z.cells.size = size) (hsz : 0 < size)
    (ao : Option Addr) (n : Nat) (olds : List Value) (hs : a.eval s = .slice ao n n) (hlo : olds.length = n * size) (holds : ∀ j u, olds[j]? = some u → ∃ b, ao = some b ∧ w.cell? (b.add j) = some u) (hnil : ao = none → n = 0)
    (ad : Addr) (m c : Nat) (news : List Value) (hx : a.eval x = .slice (some ad) m c) (hl : news.length = m * size) (hsrc : ∀ j u, news[j]? = some u → w.cell? (ad.add j) = some u) (h1 : ∀ u ∈ news, u.oneCell' = true) (hm : 0 < m)
    (h63 : n + m ≤ maxLen) (hbytes : (n + m) * bytes ≤ 140737488355328)
    (h : ∀ g c' w', w'.ownsRow w.heap.size e size (.slice (some ⟨g, 0, none⟩) (n + m) c') (n + m) (olds ++ news) → w.grownBy w' none → w.heap.size ≤ g → K (a.put o.dst (.slice (some ⟨g, 0, none⟩) (n + m) c')) w') :
    if Region.wanted o (yielded ops a.tmps) = true then Oper.wp P o a w K Q else E := by
  have hw : Region.wanted o (yielded ops a.tmps) = true := by simp [Region.wanted, hgd]
  rw [if_pos hw]
  obtain ⟨g, c', w', hr, h2, h3, h4⟩ := run_append_full (P := P) w t o.type e i z size bytes ht hi hz hsize hby hzs hsz ao n olds hlo holds hnil ad m c news hl hsrc h1 hm h63 hbytes
  unfold Oper.wp
  simp [execOp, ho, resolve, invoke, builtin, hs, hx, hr, Result.andThen]
  exact h g c' w' h2 h3 h4

theorem wpList_append_full {ops : Array Oper} {rest : List Oper} {o : Oper} {a : Act} {Q : Exit → Act → World → Prop} (hgd : o.guard = none) (s x : Operand) (t : TypeId)
    (ho : o.op = .call { callee := .builtin .append, args := #[s, x], argTypes := #[t, t] })
    (e : TypeId) (i : TypeInfo) (z : Value) (size bytes : Nat) (ht : P.underlying t = some (.slice e)) (hi : P.info? e = some i) (hz : i.zero = some z)
    (hsize : i.size = size) (hby : i.bytes = bytes) (hzs : z.cells.size = size) (hsz : 0 < size)
    (ao : Option Addr) (n : Nat) (olds : List Value) (hs : a.eval s = .slice ao n n) (hlo : olds.length = n * size) (holds : ∀ j u, olds[j]? = some u → ∃ b, ao = some b ∧ w.cell? (b.add j) = some u) (hnil : ao = none → n = 0)
    (ad : Addr) (m c : Nat) (news : List Value) (hx : a.eval x = .slice (some ad) m c) (hl : news.length = m * size) (hsrc : ∀ j u, news[j]? = some u → w.cell? (ad.add j) = some u) (h1 : ∀ u ∈ news, u.oneCell' = true) (hm : 0 < m)
    (h63 : n + m ≤ maxLen) (hbytes : (n + m) * bytes ≤ 140737488355328)
    (h : ∀ g c' w', w'.ownsRow w.heap.size e size (.slice (some ⟨g, 0, none⟩) (n + m) c') (n + m) (olds ++ news) → w.grownBy w' none → w.heap.size ≤ g → wpList P ops Q rest (a.put o.dst (.slice (some ⟨g, 0, none⟩) (n + m) c')) w') : wpList P ops Q (o :: rest) a w := by
  obtain ⟨g, c', w', hr, h2, h3, h4⟩ := run_append_full (P := P) w t o.type e i z size bytes ht hi hz hsize hby hzs hsz ao n olds hlo holds hnil ad m c news hl hsrc h1 hm h63 hbytes
  exact Lib.wpList_append_run w hgd s x t t ho _ _ hs hx _ w' hr (h g c' w' h2 h3 h4)
end
end Go.Proofs.Ytelhnaphkbpakaa

