/- Part 7 of the proof of RoP: lemmas. -/
import Derived.Deep.RegionLaw
import Derived.Deep.RegionHeld3
import Derived.Test.YtelhnaphkbpakaaDoorMr6
namespace Go.Proofs.YtelhnaphkbpakaaDoor
open Go.RowKit
set_option linter.unusedVariables false
set_option maxRecDepth 100000
theorem arN_count {B : Nat} {w : World} {ab : Nat} {A : Ar} {av fv : Value} (h : ArAt 145 150 29 1 B w ab A av fv) :
    Calls Tryd.prog 97 #[.pointer (some ⟨ab, 0, none⟩)] w fun e w' => e = .returned (.int .i64 (A.count : Int)) ∧ Below w.heap.size w w' := by
  have a4 := cell_blk h.blk 4 rfl
  clear h
  go_enter Tryd.func97, Tryd.ntmps97
  go_wp2
  go_ret
  exact ⟨rfl, (by repeat (first | exact Below.refl _ _ | assumption | refine Below.drew ?_ | refine below_drewN ?_ _ | refine Below.alloc ?_ (by simp <;> omega) _ | refine Below.setCell ?_ (by simp <;> omega) _ | (apply bl_trans; assumption; (simp <;> omega))))⟩
theorem Ar.Ok.left {A : Ar} {m : Nat} (h : A.Ok m) : A.count + A.ret ≤ A.S := by have := h.sum; have := h.len; omega
theorem arN_get_dead {B : Nat} {w : World} {ab : Nat} {A : Ar} {av fv : Value} (h : ArAt 145 150 29 1 B w ab A av fv) (s g : Nat) (hs : s ≤ 4294967295) (hg : g ≤ 4294967295) (hl : A.live s g = false) :
    Calls Tryd.prog 76 #[.pointer (some ⟨ab, 0, none⟩), .agg #[.int .u32 (s : Int), .int .u32 (g : Int)]] w fun e w' => e = .returned (.tuple #[(.pointer none), .int .i64 51]) ∧ Below w.heap.size w w' := by
  have H := Lib.hid h
  clear h
  go_enter Tryd.func76, Tryd.ntmps76
  go_wp2_with (go_at_call 104; refine (arN_at_dead (H.out.below (by repeat (first | exact Below.refl _ _ | assumption | refine Below.drew ?_ | refine below_drewN ?_ _ | refine Below.alloc ?_ (by simp <;> omega) _ | refine Below.setCell ?_ (by simp <;> omega) _ | (apply bl_trans; assumption; (simp <;> omega))))) s g hs hg hl).mono ?_; rintro e w' ⟨rfl, hb⟩)
  go_ret2
  exact ⟨rfl, (by repeat (first | exact Below.refl _ _ | assumption | refine Below.drew ?_ | refine below_drewN ?_ _ | refine Below.alloc ?_ (by simp <;> omega) _ | refine Below.setCell ?_ (by simp <;> omega) _ | (apply bl_trans; assumption; (simp <;> omega))))⟩
theorem arN_get_live {B : Nat} {w : World} {ab gb cap : Nat} {A : Ar} {fv : Value} (h : ArAt 145 150 29 1 B w ab A (.slice (some ⟨gb, 0, none⟩) A.all.length cap) fv) (k g : Nat) (x : Value) (hk : A.all[k]? = some (g, true, [x])) :
    Calls Tryd.prog 76 #[.pointer (some ⟨ab, 0, none⟩), .agg #[.int .u32 ((k : Int) + 1), .int .u32 (g : Int)]] w fun e w' => e = .returned (.tuple #[x, .int .i64 0]) ∧ Below w.heap.size w w' := by
  have b1 := (u32_bound h.ok hk).1
  have s2 := (h.rowA.cellAt (k * (1 + 2) + 2) (by have := Nat.mul_le_mul_right (1 + 2) (show k + 1 ≤ A.all.length from b1); simp only [Nat.add_mul] at this; omega)).trans (scells_at h.ok.thing hk 2 (by omega))
  simp at s2
  have hgb : gb < w.heap.size := block_lt_of_cell s2
  have H := Lib.hid h
  have HK := Lib.hid hk
  clear h hk
  go_enter Tryd.func76, Tryd.ntmps76
  go_wp2_with (go_at_call 104; refine (arN_at_live (H.out.below (by repeat (first | exact Below.refl _ _ | assumption | refine Below.drew ?_ | refine below_drewN ?_ _ | refine Below.alloc ?_ (by simp <;> omega) _ | refine Below.setCell ?_ (by simp <;> omega) _ | (apply bl_trans; assumption; (simp <;> omega))))) k g _ HK.out).mono ?_; rintro e w' ⟨rfl, hb⟩; have s3 := (hb.cell (p := ⟨gb, k * 3 + 2, none⟩) (by simp; omega)).trans ((World.cell?_alloc_lt _ _ _ hgb).trans s2))
  go_ret2
  exact ⟨rfl, (by repeat (first | exact Below.refl _ _ | assumption | refine Below.drew ?_ | refine below_drewN ?_ _ | refine Below.alloc ?_ (by simp <;> omega) _ | refine Below.setCell ?_ (by simp <;> omega) _ | (apply bl_trans; assumption; (simp <;> omega))))⟩
theorem arN_free_dead {B : Nat} {w : World} {ab : Nat} {A : Ar} {av fv : Value} (h : ArAt 145 150 29 1 B w ab A av fv) (s g : Nat) (hs : s ≤ 4294967295) (hg : g ≤ 4294967295) (hl : A.live s g = false) :
    Calls Tryd.prog 103 #[.pointer (some ⟨ab, 0, none⟩), .agg #[.int .u32 (s : Int), .int .u32 (g : Int)]] w fun e w' => e = .returned (.int .i64 51) ∧ Below w.heap.size w w' := by
  have H := Lib.hid h
  clear h
  go_enter Tryd.func103, Tryd.ntmps103
  go_wp2_with (go_at_call 104; refine (arN_at_dead (H.out.below (by repeat (first | exact Below.refl _ _ | assumption | refine Below.drew ?_ | refine below_drewN ?_ _ | refine Below.alloc ?_ (by simp <;> omega) _ | refine Below.setCell ?_ (by simp <;> omega) _ | (apply bl_trans; assumption; (simp <;> omega))))) s g hs hg hl).mono ?_; rintro e w' ⟨rfl, hb⟩)
  go_ret
  exact ⟨rfl, (by repeat (first | exact Below.refl _ _ | assumption | refine Below.drew ?_ | refine below_drewN ?_ _ | refine Below.alloc ?_ (by simp <;> omega) _ | refine Below.setCell ?_ (by simp <;> omega) _ | (apply bl_trans; assumption; (simp <;> omega))))⟩
def Ar.new (S G : Nat) : Ar := { S, G, all := [], free := [], count := 0, ret := 0 }
theorem arN_new (S G : Nat) (B : Nat) (w : World) (hB : B ≤ w.heap.size) (h1 : 1 ≤ S) (h2 : S ≤ 2147483647) (h3 : 1 ≤ G) (h4 : G ≤ 4294967295) :
    Calls Tryd.prog 66 #[.int .i64 (S : Int), .int .i64 (G : Int)] w fun e w' => e = .returned (.tuple #[.pointer (some ⟨w.heap.size, 0, none⟩), .int .i64 0]) ∧
      ArAt 145 150 29 1 B w' w.heap.size (Ar.new S G) (.slice none 0 0) (.slice none 0 0) ∧ Below w.heap.size w w' := by
  go_enter Tryd.func66, Tryd.ntmps66
  go_wp2
  go_ret2
  refine ⟨rfl, ⟨⟨h1, h2, h3, h4, by simp [Ar.new], by simp [Ar.new], by simp [Ar.new], by simp [Ar.new], by simp [Ar.new], by simp [Ar.new], by simp [Ar.new]⟩, hB, ?_, ?_, ?_⟩, (by repeat (first | exact Below.refl _ _ | assumption | refine Below.drew ?_ | refine below_drewN ?_ _ | refine Below.alloc ?_ (by simp <;> omega) _ | refine Below.setCell ?_ (by simp <;> omega) _ | (apply bl_trans; assumption; (simp <;> omega))))⟩
  · rw [Go.heap_alloc_new]; rfl
  · exact World.ownsRow_nil _ _ _ _
  · exact World.ownsRow_nil _ _ _ _
end Go.Proofs.YtelhnaphkbpakaaDoor
namespace Go.Proofs.YtelhnaphkbpakaaDoor
open Go.RowKit
set_option linter.unusedVariables false
theorem scells_put {m : Nat} {l : List (Nat × Bool × List Value)} (h : ∀ s ∈ l, s.2.2.length = m) {k : Nat} {s s' : Nat × Bool × List Value} (hk : l[k]? = some s) (i : Nat) (v : Value) (hi : i < m + 2)
    (hs : (Value.int .u32 (s'.1 : Int) :: .bool s'.2.1 :: s'.2.2) = (Value.int .u32 (s.1 : Int) :: .bool s.2.1 :: s.2.2).set i v) : scells (l.set k s') = (scells l).set (k * (m + 2) + i) v := by
  induction l generalizing k with
  | nil => simp at hk
  | cons x l ih =>
    have hx := h x (List.mem_cons_self ..)
    have e : ∀ y l', scells (y :: l') = (Value.int .u32 (y.1 : Int) :: .bool y.2.1 :: y.2.2) ++ scells l' := fun y l' => by simp [scells]
    cases k with
    | zero =>
      simp at hk; subst hk
      rw [List.set_cons_zero, e, e, hs, List.set_append_left _ _ (by simp [hx]; omega)]
      simp
    | succ k =>
      rw [List.set_cons_succ, e, e, ih (fun s hs => h s (List.mem_cons_of_mem _ hs)) (by simpa using hk), List.set_append_right _ _ (by simp [hx, Nat.add_mul]; omega)]
      congr 2
      simp [hx, Nat.add_mul]; omega
def arQ (ab : Nat) (av fv : Value) : Nat → Prop := fun k => k = ab ∨ av.ownBlock = some k ∨ fv.ownBlock = some k
structure ArFr (tA tS tF : Nat) (Q : Nat → Prop) (w0 w : World) (av fv : Value) : Prop where
  fr : FrG [tA, tS, tF] Q w0 w
  qA : ∀ k, av.ownBlock = some k → Q k ∨ w0.heap.size ≤ k
  qF : ∀ k, fv.ownBlock = some k → Q k ∨ w0.heap.size ≤ k
structure ArRaw (Q : Nat → Prop) (tA tS tF m B : Nat) (w0 w : World) (ab : Nat) (S G : Int) (all : List (Nat × Bool × List Value)) (free : List Nat) (c r : Int) (av fv : Value) : Prop where
  thing : ∀ s ∈ all, s.2.2.length = m
  base : B ≤ ab
  blk : w.heap[ab]? = some (.cells #[.int .i64 S, .int .i64 G, av, fv, .int .i64 c, .int .i64 r] tA (0, 0))
  rowA : w.ownsRow B tS (m + 2) av all.length (scells all)
  rowF : w.ownsRow B tF 1 fv free.length (fcells free)
  fr : FrG [tA, tS, tF] Q w0 w
  qab : Q ab
  qA : ∀ k, av.ownBlock = some k → Q k ∨ w0.heap.size ≤ k
  qF : ∀ k, fv.ownBlock = some k → Q k ∨ w0.heap.size ≤ k
theorem ArAt.raw {tA tS tF m B : Nat} {w : World} {ab : Nat} {A : Ar} {av fv : Value} (h : ArAt tA tS tF m B w ab A av fv) : ArRaw (arQ ab av fv) tA tS tF m B w w ab A.S A.G A.all A.free A.count A.ret av fv :=
  ⟨h.ok.thing, h.base, h.blk, h.rowA, h.rowF, FrG.refl _ _ _, .inl rfl, fun k hk => .inl (.inr (.inl hk)), fun k hk => .inl (.inr (.inr hk))⟩
theorem ArRaw.at {Q : Nat → Prop} {tA tS tF m B : Nat} {w0 w : World} {ab : Nat} {av fv : Value} {S G c r : Int} {all : List (Nat × Bool × List Value)} {free : List Nat} (h : ArRaw Q tA tS tF m B w0 w ab S G all free c r av fv) (A' : Ar)
    (hS : S = A'.S) (hG : G = A'.G) (ha : all = A'.all) (hf : free = A'.free) (hc : c = A'.count) (hr : r = A'.ret) (ok : A'.Ok m) : ArAt tA tS tF m B w ab A' av fv ∧ ArFr tA tS tF Q w0 w av fv := by
  subst hS hG ha hf hc hr
  exact ⟨⟨ok, h.base, h.blk, h.rowA, h.rowF⟩, h.fr, h.qA, h.qF⟩
section
variable {Q : Nat → Prop} {tA tS tF m B : Nat} {w0 w w' : World} {ab : Nat} {av fv : Value} {S G c r : Int} {all : List (Nat × Bool × List Value)} {free : List Nat}
theorem ArRaw.below (h : ArRaw Q tA tS tF m B w0 w ab S G all free c r av fv) (hb : Below w.heap.size w w') : ArRaw Q tA tS tF m B w0 w' ab S G all free c r av fv :=
  have f : FrT [] 0 w w' := FrT.of_below hb
  ⟨h.thing, h.base, f.blk h.blk (by simp), f.row h.rowA (by simp), f.row h.rowF (by simp), h.fr.andBelow hb, h.qab, h.qA, h.qF⟩
theorem ArRaw.alloc (h : ArRaw Q tA tS tF m B w0 w ab S G all free c r av fv) (o : Obj) : ArRaw Q tA tS tF m B w0 (w.alloc o) ab S G all free c r av fv :=
  h.below ((Below.refl _ _).alloc (Nat.le_refl _) o)
theorem ArRaw.drew (h : ArRaw Q tA tS tF m B w0 w ab S G all free c r av fv) : ArRaw Q tA tS tF m B w0 w.drew ab S G all free c r av fv := h.below (Below.refl _ _).drew
theorem ArRaw.drewN (h : ArRaw Q tA tS tF m B w0 w ab S G all free c r av fv) (n : Nat) : ArRaw Q tA tS tF m B w0 (w.drewN n) ab S G all free c r av fv := h.below (below_drewN (Below.refl _ _) n)
theorem ownsRow_other {w : World} {base : Nat} {e : TypeId} {size : Nat} {v : Value} {n : Nat} {xs : List Value} (h : w.ownsRow base e size v n xs) {b : Nat} {c : Array Value} {e' : TypeId} {fz : Nat × Nat} (hb : w.heap[b]? = some (.cells c e' fz)) (he : e ≠ e') (o : Nat) (u : Value) :
    (w.setCell ⟨b, o, none⟩ u).ownsRow base e size v n xs := by
  refine ownsRow_setCell_other h ?_ u
  rcases h.2 with ⟨rfl, _⟩ | ⟨g, cap, cur, rfl, _, hg, _⟩
  · simp [Value.ownBlock]
  · simp only [Value.ownBlock, ne_eq, Option.some.injEq]
    exact ne_blk hg hb he
theorem ownsRow_blk {w : World} {base : Nat} {e : TypeId} {size : Nat} {n g cap : Nat} {xs : List Value} (h : w.ownsRow base e size (.slice (some ⟨g, 0, none⟩) n cap) n xs) : ∃ cur, w.heap[g]? = some (.cells cur e (0, 0)) ∧ base ≤ g := by
  rcases h.2 with ⟨h', _⟩ | ⟨g', cap', cur, h', hb, hg, _⟩
  · cases h'
  · cases h'; exact ⟨cur, hg, hb⟩
theorem ArRaw.slot {gb cap n : Nat} (hd : tA ≠ tS ∧ tS ≠ tF) (h : ArRaw Q tA tS tF m B w0 w ab S G all free c r (.slice (some ⟨gb, 0, none⟩) n cap) fv) (hn : n = all.length) {k : Nat} {s : Nat × Bool × List Value} (s' : Nat × Bool × List Value) (hk : all[k]? = some s) (i : Nat) (v : Value) (hi : i < m + 2)
    (hs : (Value.int .u32 (s'.1 : Int) :: .bool s'.2.1 :: s'.2.2) = (Value.int .u32 (s.1 : Int) :: .bool s.2.1 :: s.2.2).set i v) :
    ArRaw Q tA tS tF m B w0 (w.setCell ⟨gb, k * (m + 2) + i, none⟩ v) ab S G (all.set k s') free c r (.slice (some ⟨gb, 0, none⟩) n cap) fv := by
  subst hn
  obtain ⟨cur, hcur, hgb⟩ := ownsRow_blk h.rowA
  have hne : ab ≠ gb := ne_blk h.blk hcur hd.1
  have hl : s'.2.2.length = m := by
    have := congrArg List.length hs
    simp at this
    rw [this]; exact h.thing s (List.mem_of_getElem? hk)
  refine ⟨fun x hx => ?_, h.base, set_other h.blk hne v, ?_, ownsRow_other h.rowF hcur (Ne.symm hd.2) _ _, h.fr.set (h.qA gb rfl) hcur (by simp) v, h.qab, h.qA, h.qF⟩
  · rcases List.mem_or_eq_of_mem_set hx with hx | hx
    · exact h.thing x hx
    · subst hx; exact hl
  · rw [scells_put h.thing hk i v hi hs, List.length_set]
    exact (h.rowA.stored _ v).1
theorem ArRaw.fld (hd : tA ≠ tS ∧ tA ≠ tF) (h : ArRaw Q tA tS tF m B w0 w ab S G all free c r av fv) (o : Nat) (u : Value) {all' : List (Nat × Bool × List Value)} {free' : List Nat} {c' r' : Int} {av' fv' : Value}
    (hu : (#[.int .i64 S, .int .i64 G, av, fv, .int .i64 c, .int .i64 r] : Array Value).setIfInBounds o u = #[.int .i64 S, .int .i64 G, av', fv', .int .i64 c', .int .i64 r'])
    (hth : ∀ s ∈ all', s.2.2.length = m) (hA : w.ownsRow B tS (m + 2) av' all'.length (scells all')) (hF : w.ownsRow B tF 1 fv' free'.length (fcells free'))
    (hqA : ∀ k, av'.ownBlock = some k → Q k ∨ w0.heap.size ≤ k) (hqF : ∀ k, fv'.ownBlock = some k → Q k ∨ w0.heap.size ≤ k) :
    ArRaw Q tA tS tF m B w0 (w.setCell ⟨ab, o, none⟩ u) ab S G all' free' c' r' av' fv' :=
  ⟨hth, h.base, by rw [set_blk h.blk, hu], ownsRow_other hA h.blk (Ne.symm hd.1) _ _, ownsRow_other hF h.blk (Ne.symm hd.2) _ _, h.fr.set (.inl h.qab) h.blk (by simp) u, h.qab, hqA, hqF⟩
theorem ArRaw.count (hd : tA ≠ tS ∧ tA ≠ tF) (h : ArRaw Q tA tS tF m B w0 w ab S G all free c r av fv) (c' : Int) : ArRaw Q tA tS tF m B w0 (w.setCell ⟨ab, 4, none⟩ (.int .i64 c')) ab S G all free c' r av fv :=
  h.fld hd 4 _ rfl h.thing h.rowA h.rowF h.qA h.qF
theorem ArRaw.retd (hd : tA ≠ tS ∧ tA ≠ tF) (h : ArRaw Q tA tS tF m B w0 w ab S G all free c r av fv) (r' : Int) : ArRaw Q tA tS tF m B w0 (w.setCell ⟨ab, 5, none⟩ (.int .i64 r')) ab S G all free c r' av fv :=
  h.fld hd 5 _ rfl h.thing h.rowA h.rowF h.qA h.qF
theorem ArRaw.frees (hd : tA ≠ tS ∧ tA ≠ tF) (h : ArRaw Q tA tS tF m B w0 w ab S G all free c r av fv) {fv' : Value} {free' : List Nat} (hF : w.ownsRow B tF 1 fv' free'.length (fcells free')) (hqF : ∀ k, fv'.ownBlock = some k → Q k ∨ w0.heap.size ≤ k) : ArRaw Q tA tS tF m B w0 (w.setCell ⟨ab, 3, none⟩ fv') ab S G all free' c r av fv' :=
  h.fld hd 3 _ rfl h.thing h.rowA hF h.qA hqF
end
/-! ### the laws of an arena kept -/
theorem set_mem {l : List (Nat × Bool × List Value)} {k : Nat} {s x : Nat × Bool × List Value} (h : x ∈ l.set k s) : x ∈ l ∨ x = s := List.mem_or_eq_of_mem_set h
theorem countP_set {α : Type} (p : α → Bool) {l : List α} {k : Nat} {s s' : α} (hk : l[k]? = some s) : (l.set k s').countP p + (if p s then 1 else 0) = l.countP p + (if p s' then 1 else 0) := by
  induction l generalizing k with
  | nil => simp at hk
  | cons x l ih =>
    cases k with
    | zero => simp at hk; subst hk; simp only [List.set_cons_zero, List.countP_cons]; omega
    | succ k => have := ih (by simpa using hk); simp only [List.set_cons_succ, List.countP_cons]; omega
theorem Ar.Ok.freed {A : Ar} {m : Nat} (h : A.Ok m) {k g : Nat} {t x : List Value} (hk : A.all[k]? = some (g, true, t)) (hx : x.length = m) (hg : g < A.G) : ({ A with all := A.all.set k (g, false, x), free := A.free ++ [k], count := A.count - 1 } : Ar).Ok m := by
  have hc := countP_set (fun s : Nat × Bool × List Value => s.2.1) (s' := (g, false, x)) hk
  have hkl : k < A.all.length := (List.getElem?_eq_some_iff.1 hk).1
  have hnk : k ∉ A.free := fun hf => by obtain ⟨g', t', h1, _⟩ := h.free k hf; rw [hk] at h1; cases h1
  have hcn := h.cnt
  have hsu := h.sum
  simp at hc
  refine ⟨h.S1, h.S2, h.G1, h.G2, by simpa using h.len, fun s hs => ?_, fun s hs => ?_, fun f hf => ?_, ?_, ?_, ?_⟩
  · rcases set_mem hs with hs | rfl
    · exact h.gen s hs
    · exact h.gen (g, true, t) (List.mem_of_getElem? hk)
  · rcases set_mem hs with hs | rfl
    · exact h.thing s hs
    · exact hx
  · rcases List.mem_append.1 hf with hf | hf
    · obtain ⟨g', t', h1, h2⟩ := h.free f hf
      refine ⟨g', t', ?_, h2⟩
      have hkf : k ≠ f := fun e => hnk (e ▸ hf)
      simp [List.getElem?_set_ne hkf, h1]
    · simp at hf; subst hf
      exact ⟨g, x, by simp [hkl], hg⟩
  · exact List.nodup_append.2 ⟨h.nodup, by simp, by intro a ha b hb; simp at hb; subst hb; exact fun e => hnk (e ▸ ha)⟩
  · simp; omega
  · simp; omega
theorem Ar.Ok.retired {A : Ar} {m : Nat} (h : A.Ok m) {k g : Nat} {t x : List Value} (hk : A.all[k]? = some (g, true, t)) (hx : x.length = m) : ({ A with all := A.all.set k (g, false, x), count := A.count - 1, ret := A.ret + 1 } : Ar).Ok m := by
  have hc := countP_set (fun s : Nat × Bool × List Value => s.2.1) (s' := (g, false, x)) hk
  have hcn := h.cnt
  have hsu := h.sum
  simp at hc
  refine ⟨h.S1, h.S2, h.G1, h.G2, by simpa using h.len, fun s hs => ?_, fun s hs => ?_, fun f hf => ?_, h.nodup, ?_, ?_⟩
  · rcases set_mem hs with hs | rfl
    · exact h.gen s hs
    · exact h.gen (g, true, t) (List.mem_of_getElem? hk)
  · rcases set_mem hs with hs | rfl
    · exact h.thing s hs
    · exact hx
  · obtain ⟨g', t', h1, h2⟩ := h.free f hf
    refine ⟨g', t', ?_, h2⟩
    by_cases hkf : k = f
    · subst hkf; rw [hk] at h1; cases h1
    · simp [List.getElem?_set_ne hkf, h1]
  · simp; omega
  · simp; omega
theorem Ar.Ok.pushed {A : Ar} {m : Nat} (h : A.Ok m) {x : List Value} (hx : x.length = m) (hl : A.all.length < A.S) : ({ A with all := A.all ++ [(1, true, x)], count := A.count + 1 } : Ar).Ok m := by
  have hcn := h.cnt
  have hsu := h.sum
  refine ⟨h.S1, h.S2, h.G1, h.G2, by simp; omega, fun s hs => ?_, fun s hs => ?_, fun f hf => ?_, h.nodup, ?_, ?_⟩
  · rcases List.mem_append.1 hs with hs | hs
    · exact h.gen s hs
    · simp at hs; subst hs; exact ⟨by simp, h.G1⟩
  · rcases List.mem_append.1 hs with hs | hs
    · exact h.thing s hs
    · simp at hs; subst hs; exact hx
  · obtain ⟨g', t', h1, h2⟩ := h.free f hf
    exact ⟨g', t', by rw [List.getElem?_append_left (List.getElem?_eq_some_iff.1 h1).1]; exact h1, h2⟩
  · simp [List.countP_append]; omega
  · simp; omega
theorem Ar.Ok.popped {A : Ar} {m : Nat} (h : A.Ok m) {x : List Value} (hx : x.length = m) {l : List Nat} {k g : Nat} {t : List Value} (hf : A.free = l ++ [k]) (hk : A.all[k]? = some (g, false, t)) (hg : g < A.G) :
    ({ A with all := A.all.set k (g + 1, true, x), free := l, count := A.count + 1 } : Ar).Ok m := by
  have hc := countP_set (fun s : Nat × Bool × List Value => s.2.1) (s' := (g + 1, true, x)) hk
  have hcn := h.cnt
  have hsu := h.sum
  have hnd := h.nodup
  rw [hf] at hnd hsu
  simp at hc hsu
  obtain ⟨hnl, _, hdis⟩ := List.nodup_append.1 hnd
  have hnk : k ∉ l := fun hkl => hdis k hkl k (by simp) rfl
  refine ⟨h.S1, h.S2, h.G1, h.G2, by simpa using h.len, fun s hs => ?_, fun s hs => ?_, fun f hfm => ?_, hnl, ?_, ?_⟩
  · rcases set_mem hs with hs | rfl
    · exact h.gen s hs
    · exact ⟨by simp, hg⟩
  · rcases set_mem hs with hs | rfl
    · exact h.thing s hs
    · exact hx
  · obtain ⟨g', t', h1, h2⟩ := h.free f (by rw [hf]; exact List.mem_append_left _ hfm)
    refine ⟨g', t', ?_, h2⟩
    have hkf : k ≠ f := fun e => hnk (e ▸ hfm)
    simp [List.getElem?_set_ne hkf, h1]
  · simp; omega
  · simp; omega
theorem row_ne {w : World} {base : Nat} {e : TypeId} {size : Nat} {v : Value} {n : Nat} {xs : List Value} (h : w.ownsRow base e size v n xs) {b : Nat} {c : Array Value} {e' : TypeId} {fz : Nat × Nat} (hb : w.heap[b]? = some (.cells c e' fz)) (he : e ≠ e') : some b ≠ v.ownBlock := by
  rcases h.2 with ⟨rfl, _⟩ | ⟨g, cap, cur, rfl, _, hg, _⟩
  · simp [Value.ownBlock]
  · simp only [Value.ownBlock, ne_eq, Option.some.injEq]
    exact fun hh => ne_blk hg hb he hh.symm
theorem row_row_ne {w : World} {base : Nat} {e : TypeId} {size : Nat} {v : Value} {n : Nat} {xs : List Value} (h : w.ownsRow base e size v n xs) {base' : Nat} {e' : TypeId} {size' : Nat} {v' : Value} {n' : Nat} {xs' : List Value} (h' : w.ownsRow base' e' size' v' n' xs') (he : e ≠ e') : v.ownBlock = none ∨ v.ownBlock ≠ v'.ownBlock := by
  rcases h.2 with ⟨rfl, _⟩ | ⟨g, cap, cur, rfl, _, hg, _⟩
  · exact .inl rfl
  · exact .inr (row_ne h' hg (Ne.symm he))
section
variable {Q : Nat → Prop} {tA tS tF m B : Nat} {w0 w w1 : World} {ab : Nat} {av fv : Value} {S G c r : Int} {all : List (Nat × Bool × List Value)} {free : List Nat}
theorem ArRaw.growF (hd : tA ≠ tS ∧ tS ≠ tF ∧ tA ≠ tF) (h : ArRaw Q tA tS tF m B w0 w ab S G all free c r av fv) (hgrow : w.grownBy w1 fv.ownBlock) :
    w1.heap[ab]? = some (.cells #[.int .i64 S, .int .i64 G, av, fv, .int .i64 c, .int .i64 r] tA (0, 0)) ∧ w1.ownsRow B tS (m + 2) av all.length (scells all) ∧ FrG [tA, tS, tF] Q w0 w1 :=
  ⟨(hgrow.block ab (lt_of_some h.blk) (row_ne h.rowF h.blk (Ne.symm hd.2.2))).trans h.blk, h.rowA.kept hgrow (row_row_ne h.rowA h.rowF hd.2.1), h.fr.append h.rowF h.qF (by simp) hgrow⟩
theorem ArRaw.pushF (hd : tA ≠ tS ∧ tS ≠ tF ∧ tA ≠ tF) (h : ArRaw Q tA tS tF m B w0 w ab S G all free c r av fv) (hgrow : w.grownBy w1 fv.ownBlock) {k g cap : Nat}
    (hown : w1.ownsRow B tF 1 (.slice (some ⟨g, 0, none⟩) (free.length + 1) cap) (free.length + 1) (fcells free ++ [.int .u32 (k : Int)])) (hat : fv.ownBlock = some g ∨ w0.heap.size ≤ g) :
    ArRaw Q tA tS tF m B w0 (w1.setCell ⟨ab, 3, none⟩ (.slice (some ⟨g, 0, none⟩) (free.length + 1) cap)) ab S G all (free ++ [k]) c r av (.slice (some ⟨g, 0, none⟩) (free.length + 1) cap) := by
  obtain ⟨h1, h2, h3⟩ := h.growF hd hgrow
  refine ⟨h.thing, h.base, by rw [set_blk h1]; rfl, ownsRow_other h2 h1 (Ne.symm hd.1) _ _, ?_, h3.set (.inl h.qab) h1 (by simp) _, h.qab, h.qA, fun k' hk' => ?_⟩
  rotate_left
  · cases hk'
    rcases hat with hat | hat
    · exact h.qF _ hat
    · exact .inr hat
  have : w1.ownsRow B tF 1 (.slice (some ⟨g, 0, none⟩) (free.length + 1) cap) (free ++ [k]).length (fcells (free ++ [k])) := by simpa [fcells] using hown
  exact ownsRow_other this h1 (Ne.symm hd.2.2) _ _
theorem ArRaw.growA (hd : tA ≠ tS ∧ tS ≠ tF ∧ tA ≠ tF) (h : ArRaw Q tA tS tF m B w0 w ab S G all free c r av fv) (hgrow : w.grownBy w1 av.ownBlock) :
    w1.heap[ab]? = some (.cells #[.int .i64 S, .int .i64 G, av, fv, .int .i64 c, .int .i64 r] tA (0, 0)) ∧ w1.ownsRow B tF 1 fv free.length (fcells free) ∧ FrG [tA, tS, tF] Q w0 w1 :=
  ⟨(hgrow.block ab (lt_of_some h.blk) (row_ne h.rowA h.blk (Ne.symm hd.1))).trans h.blk, h.rowF.kept hgrow (row_row_ne h.rowF h.rowA (Ne.symm hd.2.1)), h.fr.append h.rowA h.qA (by simp) hgrow⟩
theorem ArRaw.pushA (hd : tA ≠ tS ∧ tS ≠ tF ∧ tA ≠ tF) (h : ArRaw Q tA tS tF m B w0 w ab S G all free c r av fv) (hgrow : w.grownBy w1 av.ownBlock) {s : Nat × Bool × List Value} {g cap : Nat} (hs : s.2.2.length = m)
    (hown : w1.ownsRow B tS (m + 2) (.slice (some ⟨g, 0, none⟩) (all.length + 1) cap) (all.length + 1) (scells all ++ (Value.int .u32 (s.1 : Int) :: .bool s.2.1 :: s.2.2))) (hat : av.ownBlock = some g ∨ w0.heap.size ≤ g) :
    ArRaw Q tA tS tF m B w0 (w1.setCell ⟨ab, 2, none⟩ (.slice (some ⟨g, 0, none⟩) (all.length + 1) cap)) ab S G (all ++ [s]) free c r (.slice (some ⟨g, 0, none⟩) (all.length + 1) cap) fv := by
  obtain ⟨h1, h2, h3⟩ := h.growA hd hgrow
  refine ⟨fun x hx => ?_, h.base, by rw [set_blk h1]; rfl, ?_, ownsRow_other h2 h1 (Ne.symm hd.2.2) _ _, h3.set (.inl h.qab) h1 (by simp) _, h.qab, fun k' hk' => ?_, h.qF⟩
  rotate_left 2
  · cases hk'
    rcases hat with hat | hat
    · exact h.qA _ hat
    · exact .inr hat
  · rcases List.mem_append.1 hx with hx | hx
    · exact h.thing x hx
    · simp at hx; subst hx; exact hs
  · have : w1.ownsRow B tS (m + 2) (.slice (some ⟨g, 0, none⟩) (all.length + 1) cap) (all ++ [s]).length (scells (all ++ [s])) := by
      rw [scells_append, List.length_append]; simpa [scells] using hown
    exact ownsRow_other this h1 (Ne.symm hd.1) _ _
theorem ArRaw.setNew (h : ArRaw Q tA tS tF m B w0 w ab S G all free c r av fv) {b : Nat} {cs : Array Value} {e' : TypeId} {fz : Nat × Nat} (hb : w.heap[b]? = some (.cells cs e' fz)) (he : tA ≠ e' ∧ tS ≠ e' ∧ tF ≠ e') (hn : w0.heap.size ≤ b) (o : Nat) (u : Value) :
    ArRaw Q tA tS tF m B w0 (w.setCell ⟨b, o, none⟩ u) ab S G all free c r av fv :=
  ⟨h.thing, h.base, set_other h.blk (ne_blk h.blk hb he.1) u, ownsRow_other h.rowA hb he.2.1 _ _, ownsRow_other h.rowF hb he.2.2 _ _, h.fr.setNew hn u, h.qab, h.qA, h.qF⟩
end
end Go.Proofs.YtelhnaphkbpakaaDoor
namespace Go.Proofs.YtelhnaphkbpakaaDoor
open Go.RowKit
set_option linter.unusedVariables false
set_option maxRecDepth 100000
theorem slotAt {tA tS tF m B : Nat} {w : World} {ab gb cap n : Nat} {A : Ar} {fv : Value} (h : ArAt tA tS tF m B w ab A (.slice (some ⟨gb, 0, none⟩) n cap) fv) (hn : n = A.all.length) {k : Nat} {s : Nat × Bool × List Value} (hk : A.all[k]? = some s) (i : Nat) (hi : i < m + 2) :
    w.cell? ⟨gb, k * (m + 2) + i, none⟩ = (Value.int .u32 (s.1 : Int) :: .bool s.2.1 :: s.2.2)[i]? := by
  subst hn
  have hl : k < A.all.length := (List.getElem?_eq_some_iff.1 hk).1
  exact (h.rowA.cellAt (k * (m + 2) + i) (by have := Nat.mul_le_mul_right (m + 2) (show k + 1 ≤ A.all.length from hl); simp only [Nat.add_mul] at this; omega)).trans (scells_at h.ok.thing hk i hi)
theorem u32N_info : (Tryd.prog.info? 29).map (fun i => (i.zero, i.size, i.bytes)) = some (some (.int .u32 0), 1, 4) := by kernel_rfl
theorem arN_free_last {B : Nat} {w : World} {ab gb cap : Nat} {A : Ar} {fv : Value} (h : ArAt 145 150 29 1 B w ab A (.slice (some ⟨gb, 0, none⟩) A.all.length cap) fv) (k g : Nat) (t : Value) (hk : A.all[k]? = some (g, true, [t])) (hg : A.G ≤ g) :
    Calls Tryd.prog 103 #[.pointer (some ⟨ab, 0, none⟩), .agg #[.int .u32 ((k : Int) + 1), .int .u32 (g : Int)]] w fun e w' => e = .returned (.int .i64 0) ∧
      ArAt 145 150 29 1 B w' ab { A with all := A.all.set k (g, false, [(.pointer none)]), count := A.count - 1, ret := A.ret + 1 } (.slice (some ⟨gb, 0, none⟩) A.all.length cap) fv ∧ ArFr 145 150 29 (arQ ab (.slice (some ⟨gb, 0, none⟩) A.all.length cap) fv) w w' (.slice (some ⟨gb, 0, none⟩) A.all.length cap) fv := by
  have s0 := slotAt h rfl hk 0 (by omega)
  have s1 := slotAt h rfl hk 1 (by omega)
  have s2 := slotAt h rfl hk 2 (by omega)
  simp at s0 s1 s2
  have hgb : gb < w.heap.size := block_lt_of_cell s2
  have hab := lt_of_some h.blk
  obtain ⟨cur, hcur, _⟩ := ownsRow_blk h.rowA
  have hne : ab ≠ gb := ne_blk h.blk hcur (by decide)
  have hne' : gb ≠ ab := Ne.symm hne
  have hc0 : 1 ≤ A.count := by
    have h1 := h.ok.cnt
    have h2 : 0 < A.all.countP (fun s => s.2.1) := List.countP_pos_iff.2 ⟨(g, true, [t]), List.mem_of_getElem? hk, rfl⟩
    omega
  have hcb := h.ok.left
  have hSb := h.ok.S2
  have hG2 := h.ok.G2
  have hgl := (h.ok.gen _ (List.mem_of_getElem? hk)).2
  simp at hgl
  obtain ⟨G, hGe⟩ : ∃ G, G = A.G := ⟨_, rfl⟩
  obtain ⟨C, hCe⟩ : ∃ C, C = A.count := ⟨_, rfl⟩
  obtain ⟨R, hRe⟩ : ∃ R, R = A.ret := ⟨_, rfl⟩
  rw [← hGe] at hg hG2 hgl
  rw [← hCe] at hc0 hcb
  rw [← hRe] at hcb
  have blk' : ∃ fv', w.heap[ab]? = some (.cells #[.int .i64 (A.S : Int), .int .i64 (G : Int), .slice (some ⟨gb, 0, none⟩) A.all.length cap, fv', .int .i64 (C : Int), .int .i64 (R : Int)] 145 (0, 0)) := ⟨fv, by rw [hGe, hCe, hRe]; exact h.blk⟩
  obtain ⟨fv', blk'⟩ := blk'
  have hgc : decide ((g : Int) < (G : Int)) = false := by simp; omega
  have q1 : IntKind.i64.wrap (g : Int) = g := IntWalk.i64_in _ (by omega)
  have HG := Lib.hid hGe
  have HC := Lib.hid hCe
  have HRE := Lib.hid hRe
  have H := Lib.hid h
  have HK := Lib.hid hk
  clear h hk hGe hCe hRe
  go_enter Tryd.func103, Tryd.ntmps103
  go_wp2_with fail
  refine (arN_at_live (H.out.below (by repeat (first | exact Below.refl _ _ | assumption | refine Below.drew ?_ | refine below_drewN ?_ _ | refine Below.alloc ?_ (by simp <;> omega) _ | refine Below.setCell ?_ (by simp <;> omega) _ | (apply bl_trans; assumption; (simp <;> omega))))) k g _ HK.out).mono ?_
  rintro e w' ⟨rfl, hb⟩
  have hz : w.heap.size < w'.heap.size := by have := hb.size; simp at this; omega
  have hblk : ∀ (j : Nat) o, w.heap[j]? = some o → w'.heap[j]? = some o := fun j o hj => (hb.block j (by have := lt_of_some hj; simp; omega)).trans (alloc_blk hj _)
  have nb := hblk _ _ blk'
  have nc := hblk _ _ hcur
  have c0 := (hb.cell (p := ⟨gb, k * 3, none⟩) (by simp; omega)).trans ((World.cell?_alloc_lt _ _ _ hgb).trans s0)
  have c1 := (hb.cell (p := ⟨gb, k * 3 + 1, none⟩) (by simp; omega)).trans ((World.cell?_alloc_lt _ _ _ hgb).trans s1)
  have c2 := (hb.cell (p := ⟨gb, k * 3 + 2, none⟩) (by simp; omega)).trans ((World.cell?_alloc_lt _ _ _ hgb).trans s2)
  have fr1 := fun o => free_blk nc o
  have fr2 := fun o => free_blk nb o
  have d1 := cell_blk nb 1 rfl
  have d4 := cell_blk nb 4 rfl
  have d5 := cell_blk nb 5 rfl
  have hb' := hb
  clear s0 s1 s2 blk' hcur hblk nb nc hb
  go_wp2
  go_quiet (fail)
  go_wp2
  go_ret
  refine ⟨rfl, ?_⟩
  have hR := (((((H.out.raw.below (w' := w') (bl_trans hb' (by simp) (by repeat (first | exact Below.refl _ _ | assumption | refine Below.drew ?_ | refine below_drewN ?_ _ | refine Below.alloc ?_ (by simp <;> omega) _ | refine Below.setCell ?_ (by simp <;> omega) _ | (apply bl_trans; assumption; (simp <;> omega)))))).slot ⟨by decide, by decide⟩ rfl (g, false, [t]) HK.out 1 (.bool false) (by omega) rfl).slot ⟨by decide, by decide⟩ (by simp) (k := k) (s := (g, false, [t])) (g, false, [(.pointer none)]) (by simp [(List.getElem?_eq_some_iff.1 HK.out).1]) 2 (.pointer none) (by omega) rfl).count ⟨by decide, by decide⟩ ((C : Int) - 1)).drewN nq).retd ⟨by decide, by decide⟩ ((R : Int) + 1)
  have e1 := HC.out
  have e2 := HRE.out
  exact hR.at { A with all := A.all.set k (g, false, [(.pointer none)]), count := A.count - 1, ret := A.ret + 1 } rfl rfl (by simp) rfl (by show (C : Int) - 1 = ((A.count - 1 : Nat) : Int); omega) (by show (R : Int) + 1 = ((A.ret + 1 : Nat) : Int); omega) (H.out.ok.retired HK.out rfl)
theorem arN_free_room {B : Nat} {w : World} {ab gb cap : Nat} {A : Ar} {fv : Value} (h : ArAt 145 150 29 1 B w ab A (.slice (some ⟨gb, 0, none⟩) A.all.length cap) fv) (k g : Nat) (t : Value) (hk : A.all[k]? = some (g, true, [t])) (hg : g < A.G) :
    Calls Tryd.prog 103 #[.pointer (some ⟨ab, 0, none⟩), .agg #[.int .u32 ((k : Int) + 1), .int .u32 (g : Int)]] w fun e w' => ∃ fv', e = .returned (.int .i64 0) ∧
      ArAt 145 150 29 1 B w' ab { A with all := A.all.set k (g, false, [(.pointer none)]), free := A.free ++ [k], count := A.count - 1 } (.slice (some ⟨gb, 0, none⟩) A.all.length cap) fv' ∧ ArFr 145 150 29 (arQ ab (.slice (some ⟨gb, 0, none⟩) A.all.length cap) fv) w w' (.slice (some ⟨gb, 0, none⟩) A.all.length cap) fv' := by
  have s0 := slotAt h rfl hk 0 (by omega)
  have s1 := slotAt h rfl hk 1 (by omega)
  have s2 := slotAt h rfl hk 2 (by omega)
  simp at s0 s1 s2
  have hgb : gb < w.heap.size := block_lt_of_cell s2
  have hab := lt_of_some h.blk
  obtain ⟨cur, hcur, _⟩ := ownsRow_blk h.rowA
  have hne : ab ≠ gb := ne_blk h.blk hcur (by decide)
  have hne' : gb ≠ ab := Ne.symm hne
  have hc0 : 1 ≤ A.count := by
    have h1 := h.ok.cnt
    have h2 : 0 < A.all.countP (fun s => s.2.1) := List.countP_pos_iff.2 ⟨(g, true, [t]), List.mem_of_getElem? hk, rfl⟩
    omega
  have hcb := h.ok.left
  have hSb := h.ok.S2
  have hG2 := h.ok.G2
  have hgl := (h.ok.gen _ (List.mem_of_getElem? hk)).2
  simp at hgl
  have hlen := h.ok.len
  have hfl : A.free.length ≤ A.all.length := by have := h.ok.sum; omega
  have hkl : k < A.all.length := (List.getElem?_eq_some_iff.1 hk).1
  have q4 : IntKind.u32.wrap (k : Int) = k := IntWalk.u32_in _ (by omega)
  obtain ⟨G, hGe⟩ : ∃ G, G = A.G := ⟨_, rfl⟩
  obtain ⟨C, hCe⟩ : ∃ C, C = A.count := ⟨_, rfl⟩
  obtain ⟨R, hRe⟩ : ∃ R, R = A.ret := ⟨_, rfl⟩
  rw [← hGe] at hg hG2 hgl
  rw [← hCe] at hc0 hcb
  rw [← hRe] at hcb
  have blk' : w.heap[ab]? = some (.cells #[.int .i64 (A.S : Int), .int .i64 (G : Int), .slice (some ⟨gb, 0, none⟩) A.all.length cap, fv, .int .i64 (C : Int), .int .i64 (R : Int)] 145 (0, 0)) := by rw [hGe, hCe, hRe]; exact h.blk
  have hgc : decide ((g : Int) < (G : Int)) = true := by simp; omega
  have q1 : IntKind.i64.wrap (g : Int) = g := IntWalk.i64_in _ (by omega)
  have HG := Lib.hid hGe
  have HC := Lib.hid hCe
  have HRE := Lib.hid hRe
  have H := Lib.hid h
  have HK := Lib.hid hk
  clear h hk hGe hCe hRe
  go_enter Tryd.func103, Tryd.ntmps103
  go_wp2_with fail
  refine (arN_at_live (H.out.below (by repeat (first | exact Below.refl _ _ | assumption | refine Below.drew ?_ | refine below_drewN ?_ _ | refine Below.alloc ?_ (by simp <;> omega) _ | refine Below.setCell ?_ (by simp <;> omega) _ | (apply bl_trans; assumption; (simp <;> omega))))) k g _ HK.out).mono ?_
  rintro e w' ⟨rfl, hb⟩
  have hz : w.heap.size < w'.heap.size := by have := hb.size; simp at this; omega
  have hblk : ∀ (j : Nat) o, w.heap[j]? = some o → w'.heap[j]? = some o := fun j o hj => (hb.block j (by have := lt_of_some hj; simp; omega)).trans (alloc_blk hj _)
  have nb := hblk _ _ blk'
  have nc := hblk _ _ hcur
  have c0 := (hb.cell (p := ⟨gb, k * 3, none⟩) (by simp; omega)).trans ((World.cell?_alloc_lt _ _ _ hgb).trans s0)
  have c1 := (hb.cell (p := ⟨gb, k * 3 + 1, none⟩) (by simp; omega)).trans ((World.cell?_alloc_lt _ _ _ hgb).trans s1)
  have c2 := (hb.cell (p := ⟨gb, k * 3 + 2, none⟩) (by simp; omega)).trans ((World.cell?_alloc_lt _ _ _ hgb).trans s2)
  have fr1 := fun o => free_blk nc o
  have fr2 := fun o => free_blk nb o
  have d1 := cell_blk nb 1 rfl
  have d4 := cell_blk nb 4 rfl
  have d5 := cell_blk nb 5 rfl
  have d3 := cell_blk nb 3 rfl
  have c3 : w'.cell? ⟨w.heap.size, 0, none⟩ = some (.int .u32 ((k : Int) + 1)) := (hb.cell (p := ⟨w.heap.size, 0, none⟩) (by simp)).trans (by simp)
  have hb' := hb
  have hab' := lt_of_some nb
  have hgb' := lt_of_some nc
  obtain ⟨i0, hi0, hz0, hz1, hz2⟩ := info_parts u32N_info
  clear s0 s1 s2 blk' hcur hblk nb nc hb
  go_wp2
  go_quiet (fail)
  go_wp2
  have hR := ((((H.out.raw.below (w' := w') (bl_trans hb' (by simp) (by repeat (first | exact Below.refl _ _ | assumption | refine Below.drew ?_ | refine below_drewN ?_ _ | refine Below.alloc ?_ (by simp <;> omega) _ | refine Below.setCell ?_ (by simp <;> omega) _ | (apply bl_trans; assumption; (simp <;> omega)))))).slot ⟨by decide, by decide⟩ rfl (g, false, [t]) HK.out 1 (.bool false) (by omega) rfl).slot ⟨by decide, by decide⟩ (by simp) (k := k) (s := (g, false, [t])) (g, false, [(.pointer none)]) (by simp [(List.getElem?_eq_some_iff.1 HK.out).1]) 2 (.pointer none) (by omega) rfl).count ⟨by decide, by decide⟩ ((C : Int) - 1)).drewN nq
  have w4 : ((((w'.setCell ⟨gb, k * 3 + 1, none⟩ (.bool false)).setCell ⟨gb, k * 3 + 2, none⟩ (.pointer none)).setCell ⟨ab, 4, none⟩ (.int .i64 ((C : Int) - 1))).drewN nq).cell? ⟨w.heap.size, 0, none⟩ = some (.int .u32 ((k : Int) + 1)) := by
    rw [World.cell?_drewN, set_cell_ne _ (by simp; omega), set_cell_ne _ (by simp; omega), set_cell_ne _ (by simp; omega)]
    exact c3
  have hsz : w'.heap.size = ((((w'.setCell ⟨gb, k * 3 + 1, none⟩ (.bool false)).setCell ⟨gb, k * 3 + 2, none⟩ (.pointer none)).setCell ⟨ab, 4, none⟩ (.int .i64 ((C : Int) - 1))).drewN nq).heap.size := by simp
  clear d1 d4 d5 d3 c0 c1 c2 c3 fr1 fr2
  change ArRaw _ _ _ _ _ _ _ ((((w'.setCell ⟨gb, k * 3 + 1, none⟩ (.bool false)).setCell ⟨gb, k * 3 + 2, none⟩ (.pointer none)).setCell ⟨ab, 4, none⟩ (.int .i64 ((C : Int) - 1))).drewN nq) _ _ _ _ _ _ _ _ _ at hR
  generalize ((((w'.setCell ⟨gb, k * 3 + 1, none⟩ (.bool false)).setCell ⟨gb, k * 3 + 2, none⟩ (.pointer none)).setCell ⟨ab, 4, none⟩ (.int .i64 ((C : Int) - 1))).drewN nq) = W at hR w4 hsz ⊢
  have w3 := cell_blk hR.blk 3 rfl
  have f3 := free_blk hR.blk 3
  have hF := hR.rowF
  have HSZ := Lib.hid hsz
  have HR := Lib.hid hR
  clear hsz hR
  simp at w3
  have habW := lt_of_some HR.out.blk
  go_region_law ((refine step_append_lies _ (by rfl) _ _ 110 (by rfl) B 29 i0 _ 1 4 Tryd.underlying110 hi0 hz0 hz1 hz2 rfl (by omega) fv _ _ (by rfl) ((hF.alloc _).drew) ⟨W.heap.size, 0, none⟩ 1 1 [.int .u32 (k : Int)] (by rfl) (by rfl) (World.news_of_block (cs := #[.int .u32 (k : Int)]) (t := 29) (fr := (0, 0)) (Go.heap_alloc_new W _)) (by simp [Value.oneCell']) (by omega) (by unfold maxLen; omega) (by omega) (by simp; have := HR.out.base; omega) (W.heap.size + 1) (by simp) ?_; intro gg cap1 w1 hown1 hgrow hat hlt; have nb1 := (hgrow.block ab (by simp; omega) (row_ne hF HR.out.blk (by decide))).trans (alloc_blk HR.out.blk _); have x1 := cell_blk nb1 3 rfl; have x2 := free_blk nb1 3))
  all_goals go_wp2
  all_goals go_ret
  all_goals refine ⟨.slice (some ⟨gg, 0, none⟩) (A.free.length + 1) cap1, rfl, ?_⟩
  all_goals have e1 := HC.out
  all_goals exact ((HR.out.alloc _).drew.pushF (by decide) hgrow hown1 (hat.imp id (fun e => by have := HR.out.fr.size; omega))).at { A with all := A.all.set k (g, false, [(.pointer none)]), free := A.free ++ [k], count := A.count - 1 } rfl rfl (by simp) rfl (by show (C : Int) - 1 = ((A.count - 1 : Nat) : Int); omega) rfl (H.out.ok.freed HK.out rfl (by have := HG.out; omega))
end Go.Proofs.YtelhnaphkbpakaaDoor
