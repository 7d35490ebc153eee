/- An arena in memory, without its laws: what each store does to it. No program. -/
import Derived.Test.YtlmbpbijhhnhpaaAr
namespace Go.Proofs.Ytlmbpbijhhnhpaa
open Go.RowKit
set_option linter.unusedVariables false

theorem scells_put {m : Nat} {l : List (Nat × Bool × List Value)} (h : ∀ s ∈ l, s.2.2.length = m) {k : Nat} {s s' : Nat × Bool × List Value} (hk : l[k]? = some s) (i : Nat) (v : Value) (hi : i < m + 2)
    (hs : (Value.int .u32 (s'.1 : Int) :: .bool s'.2.1 :: s'.2.2) = (Value.int .u32 (s.1 : Int) :: .bool s.2.1 :: s.2.2).set i v) : scells (l.set k s') = (scells l).set (k * (m + 2) + i) v := by
  induction l generalizing k with
  | nil => simp at hk
  | cons x l ih =>
    have hx := h x (List.mem_cons_self ..)
    have e : ∀ y l', scells (y :: l') = (Value.int .u32 (y.1 : Int) :: .bool y.2.1 :: y.2.2) ++ scells l' := fun y l' => by simp [scells]
    cases k with
    | zero =>
      simp at hk; subst hk
      rw [List.set_cons_zero, e, e, hs, List.set_append_left _ _ (by simp [hx]; omega)]
      simp
    | succ k =>
      rw [List.set_cons_succ, e, e, ih (fun s hs => h s (List.mem_cons_of_mem _ hs)) (by simpa using hk), List.set_append_right _ _ (by simp [hx, Nat.add_mul]; omega)]
      congr 2
      simp [hx, Nat.add_mul]; omega

structure ArRaw (tA tS tF m B : Nat) (w0 w : World) (ab : Nat) (S G : Int) (all : List (Nat × Bool × List Value)) (free : List Nat) (c r : Int) (av fv : Value) : Prop where
  thing : ∀ s ∈ all, s.2.2.length = m
  base : B ≤ ab
  blk : w.heap[ab]? = some (.cells #[.int .i64 S, .int .i64 G, av, fv, .int .i64 c, .int .i64 r] tA (0, 0))
  rowA : w.ownsRow B tS (m + 2) av all.length (scells all)
  rowF : w.ownsRow B tF 1 fv free.length (fcells free)
  fr : FrT [tA, tS, tF] B w0 w

theorem ArAt.raw {tA tS tF m B : Nat} {w : World} {ab : Nat} {A : Ar} {av fv : Value} (h : ArAt tA tS tF m B w ab A av fv) : ArRaw tA tS tF m B w w ab A.S A.G A.all A.free A.count A.ret av fv :=
  ⟨h.ok.thing, h.base, h.blk, h.rowA, h.rowF, FrT.refl _ _ _⟩

theorem ArRaw.at {tA tS tF m B : Nat} {w0 w : World} {ab : Nat} {av fv : Value} {S G c r : Int} {all : List (Nat × Bool × List Value)} {free : List Nat} (h : ArRaw tA tS tF m B w0 w ab S G all free c r av fv) (A' : Ar)
    (hS : S = A'.S) (hG : G = A'.G) (ha : all = A'.all) (hf : free = A'.free) (hc : c = A'.count) (hr : r = A'.ret) (ok : A'.Ok m) : ArAt tA tS tF m B w ab A' av fv ∧ FrT [tA, tS, tF] B w0 w := by
  subst hS hG ha hf hc hr
  exact ⟨⟨ok, h.base, h.blk, h.rowA, h.rowF⟩, h.fr⟩

section
variable {tA tS tF m B : Nat} {w0 w w' : World} {ab : Nat} {av fv : Value} {S G c r : Int} {all : List (Nat × Bool × List Value)} {free : List Nat}

theorem ArRaw.below (h : ArRaw tA tS tF m B w0 w ab S G all free c r av fv) (hb : Below w.heap.size w w') : ArRaw tA tS tF m B w0 w' ab S G all free c r av fv :=
  have f : FrT [] 0 w w' := FrT.of_below hb
  ⟨h.thing, h.base, f.blk h.blk (by simp), f.row h.rowA (by simp), f.row h.rowF (by simp), h.fr.trans (FrT.of_below hb)⟩

theorem ArRaw.alloc (h : ArRaw tA tS tF m B w0 w ab S G all free c r av fv) (o : Obj) : ArRaw tA tS tF m B w0 (w.alloc o) ab S G all free c r av fv :=
  h.below ((Below.refl _ _).alloc (Nat.le_refl _) o)
theorem ArRaw.drew (h : ArRaw tA tS tF m B w0 w ab S G all free c r av fv) : ArRaw tA tS tF m B w0 w.drew ab S G all free c r av fv := h.below (Below.refl _ _).drew
theorem ArRaw.drewN (h : ArRaw tA tS tF m B w0 w ab S G all free c r av fv) (n : Nat) : ArRaw tA tS tF m B w0 (w.drewN n) ab S G all free c r av fv := h.below (below_drewN (Below.refl _ _) n)

theorem ownsRow_other {w : World} {base : Nat} {e : TypeId} {size : Nat} {v : Value} {n : Nat} {xs : List Value} (h : w.ownsRow base e size v n xs) {b : Nat} {c : Array Value} {e' : TypeId} {fz : Nat × Nat} (hb : w.heap[b]? = some (.cells c e' fz)) (he : e ≠ e') (o : Nat) (u : Value) :
    (w.setCell ⟨b, o, none⟩ u).ownsRow base e size v n xs := by
  refine ownsRow_setCell_other h ?_ u
  rcases h.2 with ⟨rfl, _⟩ | ⟨g, cap, cur, rfl, _, hg, _⟩
  · simp [Value.ownBlock]
  · simp only [Value.ownBlock, ne_eq, Option.some.injEq]
    exact ne_blk hg hb he

theorem ownsRow_blk {w : World} {base : Nat} {e : TypeId} {size : Nat} {n g cap : Nat} {xs : List Value} (h : w.ownsRow base e size (.slice (some ⟨g, 0, none⟩) n cap) n xs) : ∃ cur, w.heap[g]? = some (.cells cur e (0, 0)) ∧ base ≤ g := by
  rcases h.2 with ⟨h', _⟩ | ⟨g', cap', cur, h', hb, hg, _⟩
  · cases h'
  · cases h'; exact ⟨cur, hg, hb⟩

/-- A store into cell i of slot k. -/
theorem ArRaw.slot {gb cap n : Nat} (hd : tA ≠ tS ∧ tS ≠ tF) (h : ArRaw tA tS tF m B w0 w ab S G all free c r (.slice (some ⟨gb, 0, none⟩) n cap) fv) (hn : n = all.length) {k : Nat} {s : Nat × Bool × List Value} (s' : Nat × Bool × List Value) (hk : all[k]? = some s) (i : Nat) (v : Value) (hi : i < m + 2)
    (hs : (Value.int .u32 (s'.1 : Int) :: .bool s'.2.1 :: s'.2.2) = (Value.int .u32 (s.1 : Int) :: .bool s.2.1 :: s.2.2).set i v) :
    ArRaw tA tS tF m B w0 (w.setCell ⟨gb, k * (m + 2) + i, none⟩ v) ab S G (all.set k s') free c r (.slice (some ⟨gb, 0, none⟩) n cap) fv := by
  subst hn
  obtain ⟨cur, hcur, hgb⟩ := ownsRow_blk h.rowA
  have hne : ab ≠ gb := ne_blk h.blk hcur hd.1
  have hl : s'.2.2.length = m := by
    have := congrArg List.length hs
    simp at this
    rw [this]; exact h.thing s (List.mem_of_getElem? hk)
  refine ⟨fun x hx => ?_, h.base, set_other h.blk hne v, ?_, ownsRow_other h.rowF hcur (Ne.symm hd.2) _ _, h.fr.set hgb hcur (by simp) v⟩
  · rcases List.mem_or_eq_of_mem_set hx with hx | hx
    · exact h.thing x hx
    · subst hx; exact hl
  · rw [scells_put h.thing hk i v hi hs, List.length_set]
    exact (h.rowA.stored _ v).1

/-- A store into a field of the struct. -/
theorem ArRaw.fld (hd : tA ≠ tS ∧ tA ≠ tF) (h : ArRaw tA tS tF m B w0 w ab S G all free c r av fv) (o : Nat) (u : Value) {all' : List (Nat × Bool × List Value)} {free' : List Nat} {c' r' : Int} {av' fv' : Value}
    (hu : (#[.int .i64 S, .int .i64 G, av, fv, .int .i64 c, .int .i64 r] : Array Value).setIfInBounds o u = #[.int .i64 S, .int .i64 G, av', fv', .int .i64 c', .int .i64 r'])
    (hth : ∀ s ∈ all', s.2.2.length = m) (hA : w.ownsRow B tS (m + 2) av' all'.length (scells all')) (hF : w.ownsRow B tF 1 fv' free'.length (fcells free')) :
    ArRaw tA tS tF m B w0 (w.setCell ⟨ab, o, none⟩ u) ab S G all' free' c' r' av' fv' :=
  ⟨hth, h.base, by rw [set_blk h.blk, hu], ownsRow_other hA h.blk (Ne.symm hd.1) _ _, ownsRow_other hF h.blk (Ne.symm hd.2) _ _, h.fr.set h.base h.blk (by simp) u⟩

theorem ArRaw.count (hd : tA ≠ tS ∧ tA ≠ tF) (h : ArRaw tA tS tF m B w0 w ab S G all free c r av fv) (c' : Int) : ArRaw tA tS tF m B w0 (w.setCell ⟨ab, 4, none⟩ (.int .i64 c')) ab S G all free c' r av fv :=
  h.fld hd 4 _ rfl h.thing h.rowA h.rowF
theorem ArRaw.retd (hd : tA ≠ tS ∧ tA ≠ tF) (h : ArRaw tA tS tF m B w0 w ab S G all free c r av fv) (r' : Int) : ArRaw tA tS tF m B w0 (w.setCell ⟨ab, 5, none⟩ (.int .i64 r')) ab S G all free c r' av fv :=
  h.fld hd 5 _ rfl h.thing h.rowA h.rowF
theorem ArRaw.frees (hd : tA ≠ tS ∧ tA ≠ tF) (h : ArRaw tA tS tF m B w0 w ab S G all free c r av fv) {fv' : Value} {free' : List Nat} (hF : w.ownsRow B tF 1 fv' free'.length (fcells free')) : ArRaw tA tS tF m B w0 (w.setCell ⟨ab, 3, none⟩ fv') ab S G all free' c r av fv' :=
  h.fld hd 3 _ rfl h.thing h.rowA hF
theorem ArRaw.alls (hd : tA ≠ tS ∧ tA ≠ tF) (h : ArRaw tA tS tF m B w0 w ab S G all free c r av fv) {av' : Value} {all' : List (Nat × Bool × List Value)} (hth : ∀ s ∈ all', s.2.2.length = m) (hA : w.ownsRow B tS (m + 2) av' all'.length (scells all')) : ArRaw tA tS tF m B w0 (w.setCell ⟨ab, 2, none⟩ av') ab S G all' free c r av' fv :=
  h.fld hd 2 _ rfl hth hA h.rowF
end

/-! ### the laws of an arena kept -/
theorem set_mem {l : List (Nat × Bool × List Value)} {k : Nat} {s x : Nat × Bool × List Value} (h : x ∈ l.set k s) : x ∈ l ∨ x = s := List.mem_or_eq_of_mem_set h

theorem countP_set {α : Type} (p : α → Bool) {l : List α} {k : Nat} {s s' : α} (hk : l[k]? = some s) : (l.set k s').countP p + (if p s then 1 else 0) = l.countP p + (if p s' then 1 else 0) := by
  induction l generalizing k with
  | nil => simp at hk
  | cons x l ih =>
    cases k with
    | zero => simp at hk; subst hk; simp only [List.set_cons_zero, List.countP_cons]; omega
    | succ k => have := ih (by simpa using hk); simp only [List.set_cons_succ, List.countP_cons]; omega

theorem Ar.Ok.put {A : Ar} {m : Nat} (h : A.Ok m) {k g : Nat} {t x : List Value} (hk : A.all[k]? = some (g, true, t)) (hx : x.length = m) : ({ A with all := A.all.set k (g, true, x) } : Ar).Ok m := by
  have hc := countP_set (fun s : Nat × Bool × List Value => s.2.1) (s' := (g, true, x)) hk
  refine ⟨h.S1, h.S2, h.G1, h.G2, by simpa using h.len, fun s hs => ?_, fun s hs => ?_, fun f hf => ?_, h.nodup, ?_, by simpa using h.sum⟩
  · rcases set_mem hs with hs | rfl
    · exact h.gen s hs
    · exact h.gen (g, true, t) (List.mem_of_getElem? hk)
  · rcases set_mem hs with hs | rfl
    · exact h.thing s hs
    · exact hx
  · obtain ⟨g', t', h1, h2⟩ := h.free f hf
    refine ⟨g', t', ?_, h2⟩
    by_cases hkf : k = f
    · subst hkf; rw [hk] at h1; cases h1
    · simp [List.getElem?_set_ne hkf, h1]
  · have := h.cnt; simp at hc ⊢; omega

theorem Ar.Ok.freed {A : Ar} {m : Nat} (h : A.Ok m) {k g : Nat} {t x : List Value} (hk : A.all[k]? = some (g, true, t)) (hx : x.length = m) (hg : g < A.G) : ({ A with all := A.all.set k (g, false, x), free := A.free ++ [k], count := A.count - 1 } : Ar).Ok m := by
  have hc := countP_set (fun s : Nat × Bool × List Value => s.2.1) (s' := (g, false, x)) hk
  have hkl : k < A.all.length := (List.getElem?_eq_some_iff.1 hk).1
  have hnk : k ∉ A.free := fun hf => by obtain ⟨g', t', h1, _⟩ := h.free k hf; rw [hk] at h1; cases h1
  have hcn := h.cnt
  have hsu := h.sum
  simp at hc
  refine ⟨h.S1, h.S2, h.G1, h.G2, by simpa using h.len, fun s hs => ?_, fun s hs => ?_, fun f hf => ?_, ?_, ?_, ?_⟩
  · rcases set_mem hs with hs | rfl
    · exact h.gen s hs
    · exact h.gen (g, true, t) (List.mem_of_getElem? hk)
  · rcases set_mem hs with hs | rfl
    · exact h.thing s hs
    · exact hx
  · rcases List.mem_append.1 hf with hf | hf
    · obtain ⟨g', t', h1, h2⟩ := h.free f hf
      refine ⟨g', t', ?_, h2⟩
      have hkf : k ≠ f := fun e => hnk (e ▸ hf)
      simp [List.getElem?_set_ne hkf, h1]
    · simp at hf; subst hf
      exact ⟨g, x, by simp [hkl], hg⟩
  · exact List.nodup_append.2 ⟨h.nodup, by simp, by intro a ha b hb; simp at hb; subst hb; exact fun e => hnk (e ▸ ha)⟩
  · simp; omega
  · simp; omega

theorem Ar.Ok.retired {A : Ar} {m : Nat} (h : A.Ok m) {k g : Nat} {t x : List Value} (hk : A.all[k]? = some (g, true, t)) (hx : x.length = m) : ({ A with all := A.all.set k (g, false, x), count := A.count - 1, ret := A.ret + 1 } : Ar).Ok m := by
  have hc := countP_set (fun s : Nat × Bool × List Value => s.2.1) (s' := (g, false, x)) hk
  have hcn := h.cnt
  have hsu := h.sum
  simp at hc
  refine ⟨h.S1, h.S2, h.G1, h.G2, by simpa using h.len, fun s hs => ?_, fun s hs => ?_, fun f hf => ?_, h.nodup, ?_, ?_⟩
  · rcases set_mem hs with hs | rfl
    · exact h.gen s hs
    · exact h.gen (g, true, t) (List.mem_of_getElem? hk)
  · rcases set_mem hs with hs | rfl
    · exact h.thing s hs
    · exact hx
  · obtain ⟨g', t', h1, h2⟩ := h.free f hf
    refine ⟨g', t', ?_, h2⟩
    by_cases hkf : k = f
    · subst hkf; rw [hk] at h1; cases h1
    · simp [List.getElem?_set_ne hkf, h1]
  · simp; omega
  · simp; omega

theorem Ar.Ok.pushed {A : Ar} {m : Nat} (h : A.Ok m) {x : List Value} (hx : x.length = m) (hl : A.all.length < A.S) : ({ A with all := A.all ++ [(1, true, x)], count := A.count + 1 } : Ar).Ok m := by
  have hcn := h.cnt
  have hsu := h.sum
  refine ⟨h.S1, h.S2, h.G1, h.G2, by simp; omega, fun s hs => ?_, fun s hs => ?_, fun f hf => ?_, h.nodup, ?_, ?_⟩
  · rcases List.mem_append.1 hs with hs | hs
    · exact h.gen s hs
    · simp at hs; subst hs; exact ⟨by simp, h.G1⟩
  · rcases List.mem_append.1 hs with hs | hs
    · exact h.thing s hs
    · simp at hs; subst hs; exact hx
  · obtain ⟨g', t', h1, h2⟩ := h.free f hf
    exact ⟨g', t', by rw [List.getElem?_append_left (List.getElem?_eq_some_iff.1 h1).1]; exact h1, h2⟩
  · simp [List.countP_append]; omega
  · simp; omega

theorem Ar.Ok.popped {A : Ar} {m : Nat} (h : A.Ok m) {x : List Value} (hx : x.length = m) {l : List Nat} {k g : Nat} {t : List Value} (hf : A.free = l ++ [k]) (hk : A.all[k]? = some (g, false, t)) (hg : g < A.G) :
    ({ A with all := A.all.set k (g + 1, true, x), free := l, count := A.count + 1 } : Ar).Ok m := by
  have hc := countP_set (fun s : Nat × Bool × List Value => s.2.1) (s' := (g + 1, true, x)) hk
  have hcn := h.cnt
  have hsu := h.sum
  have hnd := h.nodup
  rw [hf] at hnd hsu
  simp at hc hsu
  obtain ⟨hnl, _, hdis⟩ := List.nodup_append.1 hnd
  have hnk : k ∉ l := fun hkl => hdis k hkl k (by simp) rfl
  refine ⟨h.S1, h.S2, h.G1, h.G2, by simpa using h.len, fun s hs => ?_, fun s hs => ?_, fun f hfm => ?_, hnl, ?_, ?_⟩
  · rcases set_mem hs with hs | rfl
    · exact h.gen s hs
    · exact ⟨by simp, hg⟩
  · rcases set_mem hs with hs | rfl
    · exact h.thing s hs
    · exact hx
  · obtain ⟨g', t', h1, h2⟩ := h.free f (by rw [hf]; exact List.mem_append_left _ hfm)
    refine ⟨g', t', ?_, h2⟩
    have hkf : k ≠ f := fun e => hnk (e ▸ hfm)
    simp [List.getElem?_set_ne hkf, h1]
  · simp; omega
  · simp; omega
end Go.Proofs.Ytlmbpbijhhnhpaa
