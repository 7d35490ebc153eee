/- Part 11 of the proof of RoP: lemmas. -/
import Derived.ArgAppend
import Derived.Deep.Onto
import Derived.Deep.DeepCutAuto
import Derived.Laws.OwnMore
import Derived.Test.YtelhnaphkbpakaaDoorMr10
namespace Go.Proofs.YtelhnaphkbpakaaDoor
open Go.RowKit Go.Shelf
set_option linter.unusedVariables false
set_option maxRecDepth 100000
end Go.Proofs.YtelhnaphkbpakaaDoor
namespace Go.Proofs.YtelhnaphkbpakaaDoor
open Go.RowKit Go.Shelf
attribute [local go_sem] Oper.semAt_some
set_option linter.unusedVariables false
set_option maxRecDepth 100000
end Go.Proofs.YtelhnaphkbpakaaDoor
namespace Go.Proofs.YtelhnaphkbpakaaDoor
open Go Go.RowKit
set_option linter.unusedVariables false
theorem grown_below {w w' : World} {g : Option Nat} {B : Nat} (h : w.grownBy w' g) (hB : ∀ x, g = some x → B ≤ x) (hs : B ≤ w.heap.size) : Below B w w' :=
  ⟨h.os, h.tape, h.output, h.size, fun k hk => h.block k (by omega) (fun e => by have := hB k e.symm; omega)⟩
theorem grown_blk {w w' : World} {g : Option Nat} (h : w.grownBy w' g) {b : Nat} {o : Obj} (hb : w.heap[b]? = some o) (hne : g ≠ some b) : w'.heap[b]? = some o :=
  (h.block b (lt_of_some hb) (fun e => hne e.symm)).trans hb
section
variable {P : Program} (w : World)
end
end Go.Proofs.YtelhnaphkbpakaaDoor
namespace Go.Proofs.YtelhnaphkbpakaaDoor
open Go.RowKit
set_option linter.unusedVariables false
set_option maxRecDepth 100000
theorem row_below {w w' : World} {base : Nat} {e : TypeId} {size : Nat} {v : Value} {n : Nat} {xs : List Value} (h : w.ownsRow base e size v n xs) (b : Below w.heap.size w w') : w'.ownsRow base e size v n xs := (FrT.of_below (T := []) (B := 0) b).row h (by simp)
theorem row_cap {w : World} {base : Nat} {e : TypeId} {size : Nat} {a : Option Addr} {n cap m : Nat} {xs : List Value} (h : w.ownsRow base e size (.slice a n cap) m xs) : n = m ∧ m ≤ cap ∧ cap ≤ 9223372036854775807 := by
  rcases h.2 with ⟨h1, h2⟩ | ⟨g, cap', cur, h1, _, _, h4, h5, _⟩
  · obtain ⟨_, h6, h7⟩ : a = none ∧ n = 0 ∧ cap = 0 := by simpa using h1
    omega
  · cases h1; unfold maxLen at h5; omega
theorem Clip16.below {B : Nat} {w w' : World} {a : Option Addr} {us : List Nat} (h : Clip16 B w a us) (b : Below w.heap.size w w') : Clip16 B w' a us :=
  ⟨by obtain ⟨cap, hr⟩ := h.row; exact ⟨cap, row_below hr b⟩, h.bnd, h.len⟩
set_option maxHeartbeats 1000000 in
theorem own_calls (w : World) {a : Option Addr} {us : List Nat} (ca : Nat) (hA : Sl16 w a us) (hl : us.length ≤ 1099511627776) :
    Calls Tryd.prog 100 #[.slice a us.length ca] w fun e w' => ∃ a', e = .returned (.slice a' us.length us.length) ∧ Clip16 w.heap.size w' a' us ∧ Below w.heap.size w w' := by
  obtain ⟨i45, hi45, ha1, ha2, ha3⟩ := info_parts info79
  have HA := Lib.hid (hA.below ((Below.refl _ w).alloc (Nat.le_refl _) (.cells #[] 128)))
  have HB := Lib.hid hA.bnd
  obtain ⟨n, hn⟩ : ∃ n, n = us.length := ⟨_, rfl⟩
  rw [← hn] at hl ⊢
  have HN := Lib.hid hn
  clear hn hA
  go_enter Tryd.func100, Tryd.ntmps100
  go_wp2_with (at_builtin; refine wpList_append_any _ rfl (.tmp 3) (.tmp 4) 63 rfl w.heap.size 128 i45 _ 1 2 Tryd.underlying63 hi45 ha1 ha2 ha3 rfl (by omega) _ 0 [] rfl (World.ownsRow_lit w #[] 0 (Nat.le_refl _) (by decide) rfl) a n ca (enc16 us) rfl (by rw [enc16_len, HN.out]; simp) (by rw [HN.out]; exact HA.out.src) enc16_one (by unfold maxLen; omega) (by omega) (by simp) ?_)
  intro a2 c2 w2 hown hgrow
  have hc := row_cap hown
  have hb : Below w.heap.size w w2 := ((FrT.refl [128] w.heap.size w).alloc (.cells #[] 128) |>.append (World.ownsRow_lit (size := 1) w #[] 0 (Nat.le_refl _) (by decide) rfl) (Nat.le_refl _) (by simp) hgrow).below (Nat.le_refl _)
  have HO := Lib.hid hown
  have HBL := Lib.hid hb
  clear hown hgrow hb
  go_wp2_with (go_at_call 111; refine (clip16 _ _ _ hc.2.1 hc.2.2 _).mono ?_; rintro e w3 ⟨rfl, rfl⟩)
  go_ret
  exact ⟨a2, rfl, ⟨⟨c2, by rw [← HN.out]; exact HO.out⟩, HB.out, by rw [← HN.out]; omega⟩, HBL.out⟩
structure LA where
  name : ByteArray
  va : Option Addr
  vc : Nat
  val : List Nat
def LA.cells (x : LA) : List Value := [.string x.name, .slice x.va x.val.length x.vc]
def cellsA (L : List LA) : List Value := L.flatMap LA.cells
theorem cellsA_append (L M : List LA) : cellsA (L ++ M) = cellsA L ++ cellsA M := by simp [cellsA]
theorem cellsA_len (L : List LA) : (cellsA L).length = L.length * 2 := by
  induction L with
  | nil => rfl
  | cons x l ih =>
    have : cellsA (x :: l) = x.cells ++ cellsA l := rfl
    rw [this, List.length_append, ih]
    simp [LA.cells]
    omega
theorem cellsA_at {L : List LA} {i : Nat} {x : LA} (h : L[i]? = some x) : (cellsA L)[i * 2]? = some (.string x.name) ∧ (cellsA L)[i * 2 + 1]? = some (.slice x.va x.val.length x.vc) := by
  induction L generalizing i with
  | nil => simp at h
  | cons y l ih =>
    have e : cellsA (y :: l) = .string y.name :: .slice y.va y.val.length y.vc :: cellsA l := rfl
    cases i with
    | zero =>
      obtain rfl : y = x := by simpa using h
      rw [e]
      exact ⟨rfl, rfl⟩
    | succ i =>
      have h2 : l[i]? = some x := by simpa using h
      have h3 := ih h2
      rw [e, show (i + 1) * 2 = i * 2 + 1 + 1 by omega, show i * 2 + 1 + 1 + 1 = (i * 2 + 1) + 1 + 1 by omega]
      simpa using h3
structure SlA (w : World) (a : Option Addr) (L : List LA) : Prop where
  at_ : ∀ (j : Nat) (u : Value), (cellsA L)[j]? = some u → ∃ b off, a = some ⟨b, off, none⟩ ∧ b < w.heap.size ∧ w.cell? ⟨b, off + j, none⟩ = some u
  len : L.length ≤ 4611686018427387903
  val : ∀ x ∈ L, Sl16 w x.va x.val
  nam : ∀ x ∈ L, x.name.size ≤ 9223372036854775807
theorem SlA.below {w w' : World} {a : Option Addr} {L : List LA} (h : SlA w a L) (hb : Below w.heap.size w w') : SlA w' a L :=
  ⟨fun j u hu => by
    obtain ⟨b, off, h2, h3, h4⟩ := h.at_ j u hu
    exact ⟨b, off, h2, Nat.lt_of_lt_of_le h3 hb.size, (hb.cell (p := ⟨b, off + j, none⟩) h3).trans h4⟩, h.len, fun x hx => (h.val x hx).below hb, h.nam⟩
theorem SlA.get {w : World} {a : Option Addr} {L : List LA} (h : SlA w a L) {i : Nat} {x : LA} (hx : L[i]? = some x) :
    ∃ b off, a = some ⟨b, off, none⟩ ∧ b < w.heap.size ∧ w.cell? ⟨b, off + i * 2, none⟩ = some (.string x.name) ∧ w.cell? ⟨b, off + i * 2 + 1, none⟩ = some (.slice x.va x.val.length x.vc) := by
  obtain ⟨h1, h2⟩ := cellsA_at hx
  obtain ⟨b, off, e1, e2, e3⟩ := h.at_ _ _ h1
  obtain ⟨b', off', f1, f2, f3⟩ := h.at_ _ _ h2
  rw [e1] at f1
  cases f1
  exact ⟨b, off, e1, e2, e3, by rw [Nat.add_assoc]; exact f3⟩
structure Nd where
  kind : Int
  name : ByteArray
  da : Option Addr
  dc : Nat
  data : List Nat
  aa : Option Addr
  ac : Nat
  L : List LA
  slot : Int
  gen : Int
def Nd.cells (N : Nd) : Array Value := #[.int .i64 N.kind, .string N.name, .slice N.da N.data.length N.dc, .slice N.aa N.L.length N.ac, .int .u32 N.slot, .int .u32 N.gen]
def Nd.v (N : Nd) : Value := .agg N.cells
structure NdIn (w : World) (N : Nd) : Prop where
  data : Sl16 w N.da N.data
  attrs : SlA w N.aa N.L
  nam : N.name.size ≤ 9223372036854775807
  cap : N.data.length ≤ N.dc ∧ N.dc ≤ 9223372036854775807 ∧ N.L.length ≤ N.ac ∧ N.ac ≤ 9223372036854775807
theorem NdIn.below {w w' : World} {N : Nd} (h : NdIn w N) (hb : Below w.heap.size w w') : NdIn w' N := ⟨h.data.below hb, h.attrs.below hb, h.nam, h.cap⟩
structure Nd.Bd (N : Nd) (b : Nat) : Prop where
  data : N.data.length ≤ b
  attrs : N.L.length ≤ b
  val : ∀ x ∈ N.L, x.val.length ≤ b
def attrOf (x : LA) : ByteArray × List Nat := (x.name, x.val)
structure Nd.Same (M N : Nd) : Prop where
  kind : M.kind = N.kind
  name : M.name = N.name
  data : M.data = N.data
  attrs : M.L.map attrOf = N.L.map attrOf
  slot : M.slot = N.slot
  gen : M.gen = N.gen
theorem Nd.Same.len {M N : Nd} (h : M.Same N) : M.L.length = N.L.length := by have := congrArg List.length h.attrs; simpa using this
structure ClipA (B : Nat) (w : World) (a : Option Addr) (L : List LA) : Prop where
  row : ∃ cap, w.ownsRow B 114 2 (.slice a L.length cap) L.length (cellsA L)
  val : ∀ x ∈ L, Clip16 B w x.va x.val ∧ x.vc = x.val.length
  nam : ∀ x ∈ L, x.name.size ≤ 9223372036854775807
theorem ClipA.below {B : Nat} {w w' : World} {a : Option Addr} {L : List LA} (h : ClipA B w a L) (b : Below w.heap.size w w') : ClipA B w' a L :=
  ⟨by obtain ⟨cap, hr⟩ := h.row; exact ⟨cap, row_below hr b⟩, fun x hx => ⟨(h.val x hx).1.below b, (h.val x hx).2⟩, h.nam⟩
theorem row_src {w : World} {base : Nat} {e : TypeId} {size : Nat} {a : Option Addr} {n cap m : Nat} {xs : List Value} (h : w.ownsRow base e size (.slice a n cap) m xs) {j : Nat} {u : Value} (hu : xs[j]? = some u) :
    ∃ b, a = some ⟨b, 0, none⟩ ∧ b < w.heap.size ∧ w.cell? ⟨b, 0 + j, none⟩ = some u := by
  have hj : j < xs.length := (List.getElem?_eq_some_iff.1 hu).1
  have hx := h.1
  have hm : 0 < m := by rcases Nat.eq_zero_or_pos m with h0 | h0
                        · rw [h0, Nat.zero_mul] at hx; omega
                        · exact h0
  obtain ⟨g, c, hv, hb, hl⟩ := h.form hm
  obtain ⟨h1, h2, h3⟩ : a = some ⟨g, 0, none⟩ ∧ n = m ∧ cap = c := by simpa using hv
  subst h1 h2 h3
  refine ⟨g, rfl, (h.lt g rfl).2, ?_⟩
  rw [Nat.zero_add]
  exact (h.cellAt j (by rw [← hx]; exact hj)).trans hu
theorem ClipA.sl {B : Nat} {w : World} {a : Option Addr} {L : List LA} (h : ClipA B w a L) (hl : L.length ≤ 4611686018427387903) : SlA w a L := by
  obtain ⟨cap, hr⟩ := h.row
  exact ⟨fun j u hu => by obtain ⟨b, h1, h2, h3⟩ := row_src hr hu; exact ⟨b, 0, h1, h2, h3⟩, hl, fun x hx => (h.val x hx).1.sl, h.nam⟩
structure Fresh (B : Nat) (w : World) (N : Nd) : Prop where
  data : Clip16 B w N.da N.data
  dc : N.dc = N.data.length
  attrs : ClipA B w N.aa N.L
  ac : N.ac = N.L.length
  nam : N.name.size ≤ 9223372036854775807
  len : N.L.length ≤ 4611686018427387903
theorem Fresh.below {B : Nat} {w w' : World} {N : Nd} (h : Fresh B w N) (b : Below w.heap.size w w') : Fresh B w' N := ⟨h.data.below b, h.dc, h.attrs.below b, h.ac, h.nam, h.len⟩
theorem Fresh.nd {B : Nat} {w : World} {N : Nd} (h : Fresh B w N) : NdIn w N := ⟨h.data.sl, h.attrs.sl h.len, h.nam, by have h1 := h.dc; have h2 := h.ac; have h3 := h.data.len; have h4 := h.len; omega⟩
theorem info114 : (Tryd.prog.info? 114).map (fun i => (i.zero, i.size, i.bytes)) = some (some (.agg #[.string ⟨#[]⟩, .slice none 0 0]), 2, 40) := by kernel_rfl
def Cl (w : World) (a : Addr) : Value := (w.cell? a).getD (.bool false)
theorem cl_of {w : World} {a : Addr} {v : Value} (h : w.cell? a = some v) : w.cell? a = some (Cl w a) := by unfold Cl; rw [h]; rfl
theorem cl_set {w : World} {p : Addr} {x : Value} (a : Addr) (v : Value) (h : w.cell? p = some x) : (w.setCell a v).cell? p = some (Cl (w.setCell a v) p) := by
  obtain ⟨y, hy⟩ := cell?_setCell_some (w := w) (p := a) (x := v) (q := p) (v := x) h
  exact cl_of hy
theorem set2_far {w : World} {g b : Nat} (hne : b ≠ g) (i j k : Nat) (u v : Value) : ((w.setCell ⟨g, i, none⟩ u).setCell ⟨g, j, none⟩ v).cell? ⟨b, k, none⟩ = w.cell? ⟨b, k, none⟩ :=
  (World.cell?_setCell_other _ _ _ _ (fun e => hne (congrArg Addr.block e).symm)).trans (World.cell?_setCell_other _ _ _ _ (fun e => hne (congrArg Addr.block e).symm))
theorem take_two {xs : List Value} {i : Nat} (h : i * 2 + 1 < xs.length) (a b : Value) : ((xs.set (i * 2) a).set (i * 2 + 1) b).take ((i + 1) * 2) = xs.take (i * 2) ++ [a, b] := by
  apply List.ext_getElem?
  intro j
  rw [List.getElem?_take, List.getElem?_append, List.length_take, Nat.min_eq_left (by omega)]
  by_cases h1 : j < i * 2
  · rw [if_pos (by omega), if_pos h1, List.getElem?_set_ne (by omega), List.getElem?_set_ne (by omega), List.getElem?_take, if_pos h1]
  · rw [if_neg h1]
    by_cases h2 : j = i * 2
    · subst h2
      rw [if_pos (by omega), List.getElem?_set_ne (by omega), List.getElem?_set_self (by omega)]
      simp
    · by_cases h3 : j = i * 2 + 1
      · subst h3
        rw [if_pos (by omega), List.getElem?_set_self (by rw [List.length_set]; exact h)]
        simp
      · rw [if_neg (by omega)]
        obtain ⟨r, hr⟩ : ∃ r, j - i * 2 = r + 2 := ⟨j - i * 2 - 2, by omega⟩
        rw [hr]
        simp
theorem six_cells {w : World} {b : Nat} {u0 u1 u2 u3 u4 u5 : Value} {e : TypeId} (hb : w.heap[b]? = some (.cells #[u0, u1, u2, u3, u4, u5] e (0, 0))) (v0 v1 v2 v3 v4 v5 : Value) :
    ((((((w.setCell ⟨b, 0, none⟩ v0).setCell ⟨b, 1, none⟩ v1).setCell ⟨b, 2, none⟩ v2).setCell ⟨b, 3, none⟩ v3).setCell ⟨b, 4, none⟩ v4).setCell ⟨b, 5, none⟩ v5).heap[b]? = some (.cells #[v0, v1, v2, v3, v4, v5] e (0, 0)) ∧
    FrT [e] b w ((((((w.setCell ⟨b, 0, none⟩ v0).setCell ⟨b, 1, none⟩ v1).setCell ⟨b, 2, none⟩ v2).setCell ⟨b, 3, none⟩ v3).setCell ⟨b, 4, none⟩ v4).setCell ⟨b, 5, none⟩ v5) := by
  have h0 := set_blk hb 0 v0
  have h1 := set_blk h0 1 v1
  have h2 := set_blk h1 2 v2
  have h3 := set_blk h2 3 v3
  have h4 := set_blk h3 4 v4
  have h5 := set_blk h4 5 v5
  exact ⟨h5, ((((((FrT.refl _ _ _).set (a := ⟨b, 0, none⟩) (Nat.le_refl _) hb (by simp) _).set (a := ⟨b, 1, none⟩) (Nat.le_refl _) h0 (by simp) _).set (a := ⟨b, 2, none⟩) (Nat.le_refl _) h1 (by simp) _).set (a := ⟨b, 3, none⟩) (Nat.le_refl _) h2 (by simp) _).set (a := ⟨b, 4, none⟩) (Nat.le_refl _) h3 (by simp) _).set (a := ⟨b, 5, none⟩) (Nat.le_refl _) h4 (by simp) _⟩
set_option maxHeartbeats 4000000 in
theorem clone_calls (w : World) (N : Nd) (h : NdIn w N) (hB : N.Bd 1099511627776) :
    Calls Tryd.prog 69 #[N.v] w fun e w' => ∃ M : Nd, e = .returned M.v ∧ M.Same N ∧ Fresh w.heap.size w' M ∧ Below w.heap.size w w' := by
  obtain ⟨k, nm, da, dc, data, aa, ac, L, sl, ge⟩ := N
  obtain ⟨hd, ha, hn, hcap⟩ := h
  clear hcap
  obtain ⟨hb1, hb2, hb3⟩ := hB
  simp only [Nd.v, Nd.cells] at *
  obtain ⟨n, en⟩ : ∃ n, n = L.length := ⟨_, rfl⟩
  obtain ⟨m, em⟩ : ∃ m, m = data.length := ⟨_, rfl⟩
  rw [← en] at hb2 ⊢
  rw [← em] at hb1 ⊢
  have HN := Lib.hid en
  have HM := Lib.hid em
  have HD := Lib.hid hd
  have HA := Lib.hid ha
  clear en em hd ha
  go_enter Tryd.func69, Tryd.ntmps69
  go_wp2_with fail
  obtain ⟨P, hP⟩ : ∃ P, P = (w.alloc (.cells #[.int .i64 k, .string nm, .slice da m dc, .slice aa n ac, .int .u32 sl, .int .u32 ge] 66)).alloc (.cells #[.int .i64 0, .string ⟨#[]⟩, .slice none 0 0, .slice none 0 0, .int .u32 0, .int .u32 0] 66) := ⟨_, rfl⟩
  have hPb : Below w.heap.size w P := by rw [hP]; exact ((Below.refl _ w).alloc (Nat.le_refl _) _).alloc (by simp) _
  have hPs : P.heap.size = w.heap.size + 2 := by rw [hP]; simp
  have x0 : P.heap[w.heap.size]? = some (.cells #[.int .i64 k, .string nm, .slice da m dc, .slice aa n ac, .int .u32 sl, .int .u32 ge] 66 (0, 0)) := by rw [hP]; exact alloc_blk (Go.heap_alloc_new w _) _
  have x1 : P.heap[w.heap.size + 1]? = some (.cells #[.int .i64 0, .string ⟨#[]⟩, .slice none 0 0, .slice none 0 0, .int .u32 0, .int .u32 0] 66 (0, 0)) := by
    rw [hP]; have := Go.heap_alloc_new (w.alloc (.cells #[.int .i64 k, .string nm, .slice da m dc, .slice aa n ac, .int .u32 sl, .int .u32 ge] 66)) (.cells #[.int .i64 0, .string ⟨#[]⟩, .slice none 0 0, .slice none 0 0, .int .u32 0, .int .u32 0] 66); rwa [World.size_alloc] at this
  rw [← hP]
  rw [HM.out]
  refine (own_calls P dc (HD.out.below hPb) (by rw [← HM.out]; omega)).mono ?_
  rw [← HM.out]
  rintro e w1 ⟨a1, rfl, hc1, b1⟩
  have X0 := Lib.hid ((b1.block _ (by omega)).trans x0)
  have X1 := Lib.hid ((b1.block _ (by omega)).trans x1)
  have B1 := Lib.hid (hPb.trans (b1.mono (by omega)))
  have HC1 := Lib.hid hc1
  have hs1 := b1.size
  have hw1 : w.heap.size + 2 ≤ w1.heap.size := by omega
  have c0 := fun j u (h : (#[Value.int .i64 k, .string nm, .slice da m dc, .slice aa n ac, .int .u32 sl, .int .u32 ge] : Array Value)[j]? = some u) => cell_blk X0.out j h
  have c02 := c0 2 _ rfl
  have c03 := c0 3 _ rfl
  have f02 := free_blk X0.out 2
  have l0 : w.heap.size < w1.heap.size := by omega
  simp at c02 c03
  clear c0 hP hPb x0 x1 b1 hc1
  obtain ⟨i72, hi72, ia1, ia2, ia3⟩ := info_parts info114
  obtain ⟨Q, hQ⟩ : ∃ Q, Q = w1.setCell ⟨w.heap.size, 2, none⟩ (.slice a1 m m) := ⟨_, rfl⟩
  have y0 : Q.heap[w.heap.size]? = some (.cells #[.int .i64 k, .string nm, .slice a1 m m, .slice aa n ac, .int .u32 sl, .int .u32 ge] 66 (0, 0)) := by rw [hQ]; exact set_blk X0.out 2 _
  have y1 : Q.heap[w.heap.size + 1]? = some (.cells #[.int .i64 0, .string ⟨#[]⟩, .slice none 0 0, .slice none 0 0, .int .u32 0, .int .u32 0] 66 (0, 0)) := by rw [hQ]; exact set_other X1.out (by simp) _
  have hQb : Below w.heap.size w Q := by rw [hQ]; exact B1.out.setCell (by simp) _
  have hQs : Q.heap.size = w1.heap.size := by rw [hQ]; simp
  have hQc : Clip16 w.heap.size Q a1 data := by
    rw [hQ]
    obtain ⟨cap, hr⟩ := HC1.out.row
    exact ⟨⟨cap, (rwOther hr X0.out (by decide) 2 _).mono (by omega)⟩, HC1.out.bnd, HC1.out.len⟩
  have Y0 := Lib.hid y0
  have Y1 := Lib.hid y1
  have BQ := Lib.hid hQb
  have HCQ := Lib.hid hQc
  clear y0 y1 hQb hQc
  go_wp2_with (at_make; refine wpList_make_full _ rfl _ _ 64 rfl w.heap.size 114 i72 _ 2 Tryd.underlying64 hi72 ia1 ia2 .i64 .i64 _ _ n rfl rfl rfl rfl (by rw [ia3]; omega) (by unfold maxLen; omega) (by rw [World.size_setCell]; omega) ?_)
  intro w2 hrow hgrow
  rw [← hQ] at hgrow
  have hs2 : w1.heap.size ≤ w2.heap.size := by rw [← hQs]; exact hgrow.size
  have b2 : Below Q.heap.size Q w2 := grown_below hgrow (fun x h => by cases h) (Nat.le_refl _)
  have X0 := Lib.hid ((b2.block _ (lt_of_some Y0.out)).trans Y0.out)
  have X1 := Lib.hid ((b2.block _ (lt_of_some Y1.out)).trans Y1.out)
  have B2 := Lib.hid (BQ.out.trans (b2.mono (by omega)))
  have HC2 := Lib.hid (HCQ.out.below b2)
  have c03 := cell_blk X0.out 3 rfl
  have l0 : w.heap.size < w2.heap.size := by omega
  simp at c03
  have HG : Hid (∀ x, (Value.slice (some ⟨w1.heap.size, 0, none⟩) n n).ownBlock = some x → w.heap.size + 2 ≤ x ∧ x < w2.heap.size) := Lib.hid (fun x hx => by have := hrow.lt x hx; have e : w1.heap.size = x := Option.some.inj hx; omega)
  have HROW := Lib.hid hrow
  clear hrow hgrow b2 hQ Y0 Y1 HCQ B1 c02 f02
  go_wp2_with fail
  go_loopw [17] (fun v wr => ∃ (i : Nat) (K : List LA) (xs : List Value), v = .int .i64 (i : Nat) ∧ i ≤ n ∧ K.length = i ∧ K.map attrOf = (L.take i).map attrOf ∧ xs.take (i * 2) = cellsA K ∧ wr.ownsRow w.heap.size 114 2 (.slice (some ⟨w1.heap.size, 0, none⟩) n n) n xs ∧ (∀ x ∈ K, Clip16 w.heap.size wr x.va x.val ∧ x.vc = x.val.length) ∧ FrT [114] w1.heap.size w2 wr) (fun v _ => n - (intOf v).toNat)
  case atStart => exact ⟨0, [], _, rfl, Nat.zero_le _, rfl, rfl, rfl, HROW.out, by simp, FrT.refl _ _ _⟩
  case round =>
    obtain ⟨i, K, xs, rfl, hi, hKl, hKm, hxs, hrow, hcl, hfr⟩ := hrel
    have hwr := hfr.size
    by_cases hlt : i < n
    · obtain ⟨x, hx⟩ : ∃ x, L[i]? = some x := ⟨_, List.getElem?_eq_getElem (by rw [← HN.out]; exact hlt)⟩
      have hbel : Below w.heap.size w wr := B2.out.trans ((hfr.below hs2).mono (by omega))
      obtain ⟨b, off, rfl, hbl, c1, c2⟩ := (HA.out.below hbel).get hx
      have p1 : (i : Int) < (n : Int) := by omega
      have p2 : (0 : Int) ≤ (i : Int) := by omega
      have hxv := (HA.out.below hbel).val x (List.mem_of_getElem? hx)
      have hxl := hb3 x (List.mem_of_getElem? hx)
      have HR := Lib.hid (And.intro hKl (And.intro hKm (And.intro hxs (And.intro hrow (And.intro hcl (And.intro hfr hx))))))
      have HXV := Lib.hid hxv
      clear hKl hKm hxs hrow hcl hfr hx hxv
      obtain ⟨xl, exl⟩ : ∃ xl, xl = x.val.length := ⟨_, rfl⟩
      rw [← exl] at hxl c2
      have HXL := Lib.hid exl
      clear exl
      go_wp2_with fail
      have hW0 : (wr.alloc (.cells #[.string x.name, .slice x.va xl x.vc] 114)).drew.heap[wr.heap.size]? = some (.cells #[.string x.name, .slice x.va xl x.vc] 114 (0, 0)) := Go.heap_alloc_new wr _
      obtain ⟨W, hW⟩ : ∃ W, W = (wr.alloc (.cells #[.string x.name, .slice x.va xl x.vc] 114)).drew := ⟨_, rfl⟩
      have hfW : FrT [114] w1.heap.size wr W := by rw [hW]; exact ((FrT.refl _ _ _).alloc _).drew
      have hWs : W.heap.size = wr.heap.size + 1 := by rw [hW]; simp
      rw [← hW] at hW0
      have hz0 := cell_blk hW0 0 rfl
      have hz1 := cell_blk hW0 1 rfl
      have hbW : Below wr.heap.size wr W := by rw [hW]; exact ((Below.refl _ wr).alloc (Nat.le_refl _) _).drew
      have hown := own_calls W x.vc (HXV.out.below hbW) (by rw [← HXL.out]; exact hxl)
      rw [← HXL.out] at hown
      have HOWN := Lib.hid hown
      have hrW : W.ownsRow w.heap.size 114 2 (.slice (some ⟨w1.heap.size, 0, none⟩) n n) n xs := row_below HR.out.2.2.2.1 hbW
      obtain ⟨u0, hu0⟩ : ∃ u, xs[i * 2]? = some u := ⟨_, List.getElem?_eq_getElem (by have := hrW.1; omega)⟩
      obtain ⟨u1, hu1⟩ : ∃ u, xs[i * 2 + 1]? = some u := ⟨_, List.getElem?_eq_getElem (by have := hrW.1; omega)⟩
      have hd0 := cl_of ((hrW.cellAt (i * 2) (by omega)).trans hu0)
      have hd1 := cl_of ((hrW.cellAt (i * 2 + 1) (by omega)).trans hu1)
      have he0 := hrW.frozenAt (i * 2)
      have he1 := hrW.frozenAt (i * 2 + 1)
      have HZ := Lib.hid (And.intro hz0 (And.intro hz1 (And.intro hd0 (And.intro hd1 (And.intro he0 he1)))))
      have HRW := Lib.hid hrW
      have HW := Lib.hid (And.intro hW (And.intro hfW hbW))
      have lW : wr.heap.size < W.heap.size := by omega
      have lW1 : w1.heap.size < W.heap.size := by omega
      clear hown hz0 hz1 hW0 hfW hbW hrW hu0 hu1 hd0 hd1 he0 he1
      have hne : wr.heap.size ≠ w1.heap.size := by have := HG.out w1.heap.size rfl; omega
      have hS0 := HZ.out
      rw [hW] at hS0
      obtain ⟨s0, s1, s2, s3, s4, s5⟩ := hS0
      go_region_held3 (fun w' => w'.cell? ⟨wr.heap.size, 0, none⟩ = some (.string x.name) ∧ w'.cell? ⟨wr.heap.size, 1, none⟩ = some (.slice x.va xl x.vc) ∧ w'.cell? ⟨w1.heap.size, i * 2, none⟩ = some (Cl w' ⟨w1.heap.size, i * 2, none⟩) ∧ w'.cell? ⟨w1.heap.size, i * 2 + 1, none⟩ = some (Cl w' ⟨w1.heap.size, i * 2 + 1, none⟩) ∧ w'.frozen? ⟨w1.heap.size, i * 2, none⟩ = false ∧ w'.frozen? ⟨w1.heap.size, i * 2 + 1, none⟩ = false)
        (first | exact ⟨s0, s1, s2, s3, s4, s5⟩ | exact ⟨(b5.cell (p := ⟨wr.heap.size, 0, none⟩) lW).trans HZ.out.1, (b5.cell (p := ⟨wr.heap.size, 1, none⟩) lW).trans HZ.out.2.1, cl_of ((b5.cell (p := ⟨w1.heap.size, i * 2, none⟩) lW1).trans HZ.out.2.2.1), cl_of ((b5.cell (p := ⟨w1.heap.size, i * 2 + 1, none⟩) lW1).trans HZ.out.2.2.2.1), (b5.frozen (p := ⟨w1.heap.size, i * 2, none⟩) lW1).trans HZ.out.2.2.2.2.1, (b5.frozen (p := ⟨w1.heap.size, i * 2 + 1, none⟩) lW1).trans HZ.out.2.2.2.2.2⟩ | exact ⟨(set2_far hne _ _ _ _ _).trans ((b5.cell (p := ⟨wr.heap.size, 0, none⟩) lW).trans HZ.out.1), (set2_far hne _ _ _ _ _).trans ((b5.cell (p := ⟨wr.heap.size, 1, none⟩) lW).trans HZ.out.2.1), cl_set _ _ (cl_set _ _ ((b5.cell (p := ⟨w1.heap.size, i * 2, none⟩) lW1).trans HZ.out.2.2.1)), cl_set _ _ (cl_set _ _ ((b5.cell (p := ⟨w1.heap.size, i * 2 + 1, none⟩) lW1).trans HZ.out.2.2.2.1)), by simp only [World.frozen?_setCell]; exact (b5.frozen (p := ⟨w1.heap.size, i * 2, none⟩) lW1).trans HZ.out.2.2.2.2.1, by simp only [World.frozen?_setCell]; exact (b5.frozen (p := ⟨w1.heap.size, i * 2 + 1, none⟩) lW1).trans HZ.out.2.2.2.2.2⟩ | (go_keep; done))
        (first | (go_at_call 100; rw [← hW]; refine HOWN.out.mono ?_; rintro e w5 ⟨a5, rfl, hc5, b5⟩))
      have hr5 := row_below HRW.out b5
      have hs5 := b5.size
      have hg1 := rwBlk hr5
      obtain ⟨cur1, hg1, _⟩ := hg1
      obtain ⟨hr6, _⟩ := World.ownsRow.stored hr5 (i * 2) (.string x.name)
      obtain ⟨cur2, hg2, _⟩ := rwBlk hr6
      obtain ⟨hr7, _⟩ := World.ownsRow.stored hr6 (i * 2 + 1) (.slice a5 xl xl)
      have hw5w : W.heap.size ≤ w5.heap.size := hs5
      have hkeep : ∀ {B : Nat} {a : Option Addr} {us : List Nat}, Clip16 B w5 a us → Clip16 B ((w5.setCell ⟨w1.heap.size, i * 2, none⟩ (.string x.name)).setCell ⟨w1.heap.size, i * 2 + 1, none⟩ (.slice a5 xl xl)) a us := fun h => by
        obtain ⟨cap, hr⟩ := h.row
        exact ⟨⟨cap, rwOther (rwOther hr hg1 (by decide) _ _) hg2 (by decide) _ _⟩, h.bnd, h.len⟩
      have hfin : FrT [114] w1.heap.size w2 ((w5.setCell ⟨w1.heap.size, i * 2, none⟩ (.string x.name)).setCell ⟨w1.heap.size, i * 2 + 1, none⟩ (.slice a5 xl xl)) :=
        (((HR.out.2.2.2.2.2.1.trans HW.out.2.1).trans (FrT.of_below b5)).set (a := ⟨w1.heap.size, i * 2, none⟩) (Nat.le_refl _) hg1 (by simp) _).set (a := ⟨w1.heap.size, i * 2 + 1, none⟩) (Nat.le_refl _) hg2 (by simp) _
      have FIN := Lib.hid (And.intro hr7 (And.intro (@hkeep) (And.intro hfin hc5)))
      clear hr5 hr6 hr7 hkeep hfin hc5 hg1 hg2 s0 s1 s2 s3 s4 s5
      go_wp2
      go_roundw
      case rel =>
        refine ⟨i + 1, K ++ [⟨x.name, a5, xl, x.val⟩], _, by go_num, hlt, by simp [HR.out.1], ?_, ?_, FIN.out.1, ?_, FIN.out.2.2.1⟩
        · rw [List.take_add_one, HR.out.2.2.2.2.2.2]
          simp [HR.out.2.1, attrOf]
        · have hK2 : (cellsA K).length = i * 2 := by rw [cellsA_len, HR.out.1]
          have hxs := HR.out.2.2.1
          have hxl2 : xs.length = n * 2 := HRW.out.1
          rw [cellsA_append, ← hxs, take_two (by omega), HXL.out]
          rfl
        · intro y hy
          rcases List.mem_append.1 hy with hy | hy
          · have h1 := HR.out.2.2.2.2.1 y hy
            exact ⟨FIN.out.2.1 ((h1.1.below HW.out.2.2).below b5), h1.2⟩
          · obtain rfl := by simpa using hy
            have h1 := FIN.out.2.2.2
            exact ⟨FIN.out.2.1 ⟨by obtain ⟨cap, hr⟩ := h1.row; exact ⟨cap, hr.mono (by omega)⟩, h1.bnd, h1.len⟩, by rw [HXL.out]⟩
      case measure => simp [intOf]; omega
    · obtain rfl : i = n := by omega
      have p1 : ¬ (i : Int) < (i : Int) := by omega
      have x0 := hfr.blk X0.out (by decide)
      have x1 := hfr.blk X1.out (by decide)
      have c0 := fun j u (h : (#[Value.int .i64 k, .string nm, .slice a1 m m, .slice aa i ac, .int .u32 sl, .int .u32 ge] : Array Value)[j]? = some u) => cell_blk x0 j h
      have c00 := c0 0 _ rfl
      have c01 := c0 1 _ rfl
      have c02 := c0 2 _ rfl
      have c03 := c0 3 _ rfl
      have c04 := c0 4 _ rfl
      have c05 := c0 5 _ rfl
      have f03 := free_blk x0 3
      have d0 := fun j u (h : (#[Value.int .i64 0, .string ⟨#[]⟩, .slice none 0 0, .slice none 0 0, .int .u32 0, .int .u32 0] : Array Value)[j]? = some u) => cell_blk x1 j h
      have d00 := d0 0 _ rfl
      have d01 := d0 1 _ rfl
      have d02 := d0 2 _ rfl
      have d03 := d0 3 _ rfl
      have d04 := d0 4 _ rfl
      have d05 := d0 5 _ rfl
      have g0 := fun j => free_blk x1 j
      have le0 := lt_of_some x0
      have le1 := lt_of_some x1
      simp at c00 c01 c02 c03 c04 c05 d00 d01 d02 d03 d04 d05
      have HX := Lib.hid (And.intro x0 x1)
      have HR := Lib.hid (And.intro hKl (And.intro hKm (And.intro hxs (And.intro hrow (And.intro hcl hfr)))))
      clear hKl hKm hxs hrow hcl hfr x0 x1 hlt c0 d0
      go_wp2_with fail
      obtain ⟨hE, hF⟩ := six_cells (set_other HX.out.2 (show w.heap.size + 1 ≠ (⟨w.heap.size, 3, none⟩ : Addr).block by simp) (.slice (some ⟨w1.heap.size, 0, none⟩) i i)) (.int .i64 k) (.string nm) (.slice a1 m m) (.slice (some ⟨w1.heap.size, 0, none⟩) i i) (.int .u32 sl) (.int .u32 ge)
      have hF0 : FrT [66] w.heap.size wr (wr.setCell ⟨w.heap.size, 3, none⟩ (.slice (some ⟨w1.heap.size, 0, none⟩) i i)) := (FrT.refl _ _ _).set (a := ⟨w.heap.size, 3, none⟩) (Nat.le_refl _) HX.out.1 (by simp) _
      have hFF := hF0.trans (hF.mono (fun _ h => h) (by omega))
      have z0 := cell_blk hE 0 rfl
      have z1 := cell_blk hE 1 rfl
      have z2 := cell_blk hE 2 rfl
      have z3 := cell_blk hE 3 rfl
      have z4 := cell_blk hE 4 rfl
      have z5 := cell_blk hE 5 rfl
      skip
      obtain ⟨hKl, hKm, hxs, hrow, hcl, hfr⟩ := HR.out
      have hxs2 : xs = cellsA K := by rw [← hxs, List.take_of_length_le (by have := hrow.1; omega)]
      refine bodyPost_ret (v := .agg #[.int .i64 k, .string nm, .slice a1 m m, .slice (some ⟨w1.heap.size, 0, none⟩) i i, .int .u32 sl, .int .u32 ge]) (by simp [results, Tryd.results69, go_sem, z0, z1, z2, z3, z4, z5]) rfl ⟨⟨k, nm, a1, m, data, some ⟨w1.heap.size, 0, none⟩, i, K, sl, ge⟩, ?_, ?_, ?_, ?_⟩
      · simp only [hKl, ← HM.out]
      · exact ⟨rfl, rfl, rfl, by rw [hKm, List.take_of_length_le (by rw [HN.out]; exact Nat.le_refl _)], rfl, rfl⟩
      · have hC := HC2.out
        refine ⟨?_, HM.out, ⟨⟨i, ?_⟩, ?_, ?_⟩, hKl.symm, hn, ?_⟩
        · obtain ⟨cap, hr⟩ := hC.row
          exact ⟨⟨cap, hFF.row (hfr.row hr (by decide)) (by decide)⟩, hC.bnd, hC.len⟩
        · simp only [hKl]
          rw [← hxs2]
          exact hFF.row hrow (by decide)
        · intro y hy
          obtain ⟨h1, h2⟩ := hcl y hy
          obtain ⟨cap, hr⟩ := h1.row
          exact ⟨⟨⟨cap, hFF.row hr (by decide)⟩, h1.bnd, h1.len⟩, h2⟩
        · intro y hy
          have : attrOf y ∈ L.map attrOf := by
            have h1 : attrOf y ∈ K.map attrOf := List.mem_map.2 ⟨y, hy, rfl⟩
            rw [hKm] at h1
            obtain ⟨z, hz, hz2⟩ := List.mem_map.1 h1
            exact List.mem_map.2 ⟨z, List.mem_of_mem_take hz, hz2⟩
          obtain ⟨z, hz, hz2⟩ := List.mem_map.1 this
          have h3 := HA.out.nam z hz
          have h4 : z.name = y.name := congrArg Prod.fst hz2
          rwa [h4] at h3
        · simp only [hKl]; omega
      · exact B2.out.trans (((hfr.below hs2).mono (by omega)).trans (hFF.below (by omega)))
end Go.Proofs.YtelhnaphkbpakaaDoor
namespace Go.Proofs.YtelhnaphkbpakaaDoor
open Go.RowKit Go.Shelf
attribute [local go_sem] Oper.semAt_some
set_option linter.unusedVariables false
set_option maxRecDepth 100000
theorem roomAny {F : Fence} (hd : F.depth = none) (k : Nat) : F.room k := fun d h => by rw [hd] at h; cases h
theorem roundAny {F : Fence} (hd : F.depth = none) {m m' : Nat} {P : Program} {l : Nat} {f : FuncId} {tmps : Array Value} {assign body : Code} {w : World} {R : Ending → World → Prop} (h : RoundIn F m P l f tmps assign body w R) : RoundIn F m' P l f tmps assign body w R := ⟨h.1, fun c cs _ => h.2 c cs (roomAny hd _)⟩
theorem yieldAny {F : Fence} (hd : F.depth = none) {m : Nat} (m' : Nat) {P : Program} {l : Nat} {args : Array Value} {W : World} {R : Ending → World → Prop} (h : YieldAt F m P l args W R) : YieldAt F m' P l args W R := by
  obtain ⟨fn, tmps, assign, body, hy, hR⟩ := h
  exact ⟨fn, tmps, assign, body, hy, roundAny hd hR⟩
structure KpY (t : TypeId) (n0 : Nat) (W W' : World) : Prop where
  below : Below n0 W W'
  walks : KeepsWalks W W'
  box : ∀ (k : Nat) (c : Array Value) (fz : Nat × Nat), W.heap[k]? = some (.cells c t fz) → W'.heap[k]? = some (.cells c t fz)
theorem KpY.trans {t : TypeId} {n0 : Nat} {A B C : World} (h : KpY t n0 A B) (k : KpY t n0 B C) : KpY t n0 A C := ⟨h.below.trans k.below, h.walks.trans k.walks, fun i c fz e => k.box i c fz (h.box i c fz e)⟩
theorem kpY_b {t : TypeId} {n0 : Nat} {w : World} (hn : n0 ≤ w.heap.size) (W : World) (l : Nat) (o o' : Obj) (hl : w.heap.size ≤ l) (h : W.heap[l]? = some o) (h1 : o.isCells = false) (h2 : o.isWalk = false) : KpY t n0 W (W.putObj l o') :=
  ⟨belowK_b hn W l o o' hl h h1 h2, KeepsWalks.putObj o' h h2, fun k c fz e => (World.putObj_heap_other (fun e1 => by subst e1; rw [h] at e; cases e; cases h1)).trans e⟩
def badL (l : List Pc) : List Pc := l.filter fun x => !x.ok
theorem badL_snoc (l : List Pc) (x : Pc) : badL (l ++ [x]) = badL l ++ if x.ok then [] else [x] := by cases h : x.ok <;> simp [badL, h]
def encBd (x : Pc) : Array Value := #[.int .i64 (x.p : Int), .int .i64 (x.n : Int)]
theorem bad_calls (s : ByteArray) (w : World) :
    Calls Tryd.prog 110 #[.string s] w fun e w' => e = .returned (.func (.func 117) #[] #[.pointer (some ⟨w.heap.size, 0, none⟩)]) ∧ w' = w.alloc (.cells #[.string s] 9) := by
  go_enter Tryd.func110, Tryd.ntmps110
  go_wp2
  go_ret
  exact ⟨rfl, rfl⟩
set_option maxHeartbeats 2000000 in
theorem bad_yield (m l yb : Nat) (at_ n c : Int) (bad : Bool) (W : World) (R : Ending → World → Prop) (hyb : W.heap[yb]? = some (.cells #[.func (.yield l) #[] #[]] 47 (0, 0)))
    (hgood : bad = false → R (.returned (.bool true)) W)
    (hY : bad = true → YieldAt Fence.wide (m - 1) Tryd.prog l #[.int .i64 at_, .int .i64 n] W (fun e W' => (e = .returned (.bool true) ∧ R (.returned (.bool true)) W') ∨ (e = .returned (.bool false) ∧ R (.returned (.bool false)) W'))) :
    CallsIn Fence.wide m Tryd.prog 119 #[.int .i64 at_, .int .i64 n, .int .i32 c, .bool bad, .pointer (some ⟨yb, 0, none⟩)] W R := by
  have HG := Lib.hid hgood
  have c0 := cell_blk hyb 0 rfl
  simp at c0
  clear hgood
  cases bad with
  | false =>
    clear hY
    refine callsIn_of_wp Tryd.func119 rfl trivial ?_ rfl
    simp only [Tryd.ntmps119, List.size_toArray, List.length_cons, List.length_nil, Nat.reduceAdd, Nat.reduceSub, Array.replicate_succ, Array.replicate_zero, List.push_toArray, List.append_toArray, List.nil_append, List.cons_append]
    gi_wp2
    refine ⟨fun _ h => (by cases h), ?_⟩
    gi_wp2
    exact HG.out trivial
  | true =>
    obtain ⟨fn, tmps, assign, body, hy, hR⟩ := hY rfl
    clear hY
    refine callsIn_of_wp Tryd.func119 rfl trivial ?_ rfl
    simp only [Tryd.ntmps119, List.size_toArray, List.length_cons, List.length_nil, Nat.reduceAdd, Nat.reduceSub, Array.replicate_succ, Array.replicate_zero, List.push_toArray, List.append_toArray, List.nil_append, List.cons_append]
    gi_wp2
    refine ⟨fun h => (by cases h), ?_⟩
    refine hR.mono ?_
    rintro e W' (⟨rfl, hr⟩ | ⟨rfl, hr⟩)
    · have HRR := Lib.hid hr
      clear hr
      gi_wp2
      exact HRR.out
    · have HRR := Lib.hid hr
      clear hr
      gi_wp2
      exact HRR.out
set_option maxHeartbeats 2000000 in
theorem bad1_in (n : Nat) (l Bn : Nat) (s : ByteArray) (hs : s.size ≤ 1099511627776) {w0 : World} (J Jx : List Pc → World → Prop) (W : World) (hJ : AbidesFrom W.heap.size J)
    (hY : ∀ pre x W1, J pre W1 → pre.length < (badL (pcs s)).length → YieldAt Fence.wide (n - 1) Tryd.prog l (encBd x) W1 fun e W' =>
      (e = .returned (.bool true) ∧ J (pre ++ [x]) W' ∧ KpY 47 w0.heap.size W1 W') ∨ (e = .returned (.bool false) ∧ Jx (pre ++ [x]) W'))
    (hBn : W.heap[Bn]? = some (.cells #[.string s] 9 (0, 0))) (h0 : J [] W) :
    CallsIn Fence.wide n Tryd.prog 117 #[.func (.yield l) #[] #[], .pointer (some ⟨Bn, 0, none⟩)] W fun e W' => (∃ v, e = .returned v) ∧
      ((∃ ys, ys = badL (pcs s) ∧ J ys W') ∨ (∃ pre, pre <+: badL (pcs s) ∧ Jx pre W')) := by
  have c0 := cell_blk hBn 0 rfl
  have lB := lt_of_some hBn
  have HY := Lib.hid hY
  have HJ := Lib.hid hJ
  have hyield : ∀ pre x W1, (J (badL pre) W1 ∧ W1.heap[W.heap.size]? = some (.cells #[.func (.yield l) #[] #[]] 47 (0, 0))) → (∃ rest, pcs s = pre ++ x :: rest) → CallsIn Fence.wide (3 - 1) Tryd.prog 119 #[.int .i64 (x.p : Int), .int .i64 (x.n : Int), .int .i32 (x.c : Int), .bool (!x.ok), .pointer (some ⟨W.heap.size, 0, none⟩)] W1 fun e W' =>
      (e = .returned (.bool true) ∧ (J (badL (pre ++ [x])) W' ∧ W'.heap[W.heap.size]? = some (.cells #[.func (.yield l) #[] #[]] 47 (0, 0))) ∧ KeepsWalks W1 W') ∨ (e = .returned (.bool false) ∧ Jx (badL (pre ++ [x])) W') := by
    rintro pre x W1 ⟨hj, hb⟩ ⟨rest, hrest⟩
    refine bad_yield (3 - 1) l W.heap.size _ _ _ _ _ (fun e W' =>
      (e = .returned (.bool true) ∧ (J (badL (pre ++ [x])) W' ∧ W'.heap[W.heap.size]? = some (.cells #[.func (.yield l) #[] #[]] 47 (0, 0))) ∧ KeepsWalks W1 W') ∨ (e = .returned (.bool false) ∧ Jx (badL (pre ++ [x])) W')) hb ?_ ?_
    · intro hok
      have hok' : x.ok = true := by simpa using hok
      refine .inl ⟨rfl, ⟨?_, hb⟩, KeepsWalks.refl _⟩
      rw [badL_snoc, hok', if_pos rfl, List.append_nil]
      exact hj
    · intro hok
      have hok' : x.ok = false := by simpa using hok
      have hlt : (badL pre).length < (badL (pcs s)).length := by
        rw [hrest]
        simp [badL, hok']
      have e : badL (pre ++ [x]) = badL pre ++ [x] := by rw [badL_snoc, hok']; rfl
      refine (yieldAny rfl (3 - 1 - 1) (HY.out (badL pre) x W1 hj hlt)).mono ?_
      rw [e]
      rintro e W' (⟨rfl, h1, h2⟩ | ⟨rfl, h1⟩)
      · exact .inl ⟨rfl, .inl ⟨rfl, ⟨h1, h2.box _ _ _ hb⟩, h2.walks⟩⟩
      · exact .inr ⟨rfl, .inr ⟨rfl, h1⟩⟩
  have hread := read_in 3 119 W.heap.size (by omega) s (by omega) (fun pre W1 => J (badL pre) W1 ∧ W1.heap[W.heap.size]? = some (.cells #[.func (.yield l) #[] #[]] 47 (0, 0))) (fun pre W1 => Jx (badL pre) W1) (W.alloc (.cells #[.func (.yield l) #[] #[]] 47)) (fun args w => Go.MuLone.run_callFunc_enter (P := Tryd.prog) (f := 119) (fn := Tryd.f119) Tryd.func119 (by kernel_rfl) rfl args w)
    (fun pre A B row hj hg hr => ⟨HJ.out _ A B row hj.1 hg (fun r e => by obtain ⟨h1, h2⟩ := hr r e; exact ⟨by simp at h1; omega, h2⟩), blkGrow hj.2 hg (fun r e => by obtain ⟨_, o, ho, hw⟩ := hr r e; exact ⟨o, ho, Obj.not_cells_of_walk hw⟩)⟩)
    hyield ⟨HJ.out [] W _ none h0 (World.grownBy_alloc W _ none) (fun r e => by cases e), Go.heap_alloc_new W _⟩
  have HR := Lib.hid hread
  simp at c0
  clear hread hyield hY hJ hBn
  refine callsIn_of_wp Tryd.func117 rfl trivial ?_ rfl
  simp only [Tryd.ntmps117, List.size_toArray, List.length_cons, List.length_nil, Nat.reduceAdd, Nat.reduceSub, Array.replicate_succ, Array.replicate_zero, List.push_toArray, List.append_toArray, List.nil_append, List.cons_append]
  gi_wp2_with fail
  refine ⟨trivial, fun h => (by cases h), ?_⟩
  refine (callsIn_wide.2 (callsIn_wide.1 HR.out)).mono ?_
  rintro e W' ⟨⟨v, rfl⟩, hor⟩
  have HO := Lib.hid hor
  clear hor
  gi_wp2
  go_end0
  refine ⟨⟨_, rfl⟩, ?_⟩
  rcases HO.out with h | ⟨pre, ⟨r, hr⟩, h⟩
  · exact .inl ⟨_, rfl, h.1⟩
  · exact .inr ⟨badL pre, ⟨badL r, by rw [← hr]; simp [badL]⟩, h⟩
theorem bad_stops (n Bn : Nat) (s : ByteArray) (hs : s.size ≤ 1099511627776) {w0 : World} (w : World) (hBn : w.heap[Bn]? = some (.cells #[.string s] 9 (0, 0))) :
    SeqStopsK Fence.wide n Tryd.prog 117 #[.pointer (some ⟨Bn, 0, none⟩)] encBd (KpY 47 w0.heap.size) (fun ys => ys = badL (pcs s)) (fun pre => pre <+: badL (pcs s)) (badL (pcs s)).length w := fun l J Jx W hW hJ _ hY h0 =>
  bad1_in n l Bn s hs J Jx W hJ hY ((hW.block _ (lt_of_some hBn)).trans hBn) h0
end Go.Proofs.YtelhnaphkbpakaaDoor
