/- Part 7 of the proof of TpP: lemmas. -/
import Derived.ArgAppend
import Derived.Deep.Onto
import Derived.Deep.DeepCutAuto
import Derived.Test.YtelhnaphkbpakaaDoorMp6
namespace Go.Proofs.YtelhnaphkbpakaaDoor
open Go.RowKit Go.Shelf
set_option linter.unusedVariables false
set_option maxRecDepth 100000
end Go.Proofs.YtelhnaphkbpakaaDoor
namespace Go.Proofs.YtelhnaphkbpakaaDoor
open Go.RowKit Go.Shelf
attribute [local go_sem] Oper.semAt_some
set_option linter.unusedVariables false
set_option maxRecDepth 100000
end Go.Proofs.YtelhnaphkbpakaaDoor
namespace Go.Proofs.YtelhnaphkbpakaaDoor
open Go Go.RowKit
set_option linter.unusedVariables false
theorem grown_below {w w' : World} {g : Option Nat} {B : Nat} (h : w.grownBy w' g) (hB : ∀ x, g = some x → B ≤ x) (hs : B ≤ w.heap.size) : Below B w w' :=
  ⟨h.os, h.tape, h.output, h.size, fun k hk => h.block k (by omega) (fun e => by have := hB k e.symm; omega)⟩
theorem grown_blk {w w' : World} {g : Option Nat} (h : w.grownBy w' g) {b : Nat} {o : Obj} (hb : w.heap[b]? = some o) (hne : g ≠ some b) : w'.heap[b]? = some o :=
  (h.block b (lt_of_some hb) (fun e => hne e.symm)).trans hb
section
variable {P : Program} (w : World)
end
end Go.Proofs.YtelhnaphkbpakaaDoor
namespace Go.Proofs.YtelhnaphkbpakaaDoor
open Go.RowKit
set_option linter.unusedVariables false
set_option maxRecDepth 100000
theorem row_below {w w' : World} {base : Nat} {e : TypeId} {size : Nat} {v : Value} {n : Nat} {xs : List Value} (h : w.ownsRow base e size v n xs) (b : Below w.heap.size w w') : w'.ownsRow base e size v n xs := (FrT.of_below (T := []) (B := 0) b).row h (by simp)
theorem row_cap {w : World} {base : Nat} {e : TypeId} {size : Nat} {a : Option Addr} {n cap m : Nat} {xs : List Value} (h : w.ownsRow base e size (.slice a n cap) m xs) : n = m ∧ m ≤ cap ∧ cap ≤ 9223372036854775807 := by
  rcases h.2 with ⟨h1, h2⟩ | ⟨g, cap', cur, h1, _, _, h4, h5, _⟩
  · obtain ⟨_, h6, h7⟩ : a = none ∧ n = 0 ∧ cap = 0 := by simpa using h1
    omega
  · cases h1; unfold maxLen at h5; omega
theorem Clip16.below {B : Nat} {w w' : World} {a : Option Addr} {us : List Nat} (h : Clip16 B w a us) (b : Below w.heap.size w w') : Clip16 B w' a us :=
  ⟨by obtain ⟨cap, hr⟩ := h.row; exact ⟨cap, row_below hr b⟩, h.bnd, h.len⟩
set_option maxHeartbeats 1000000 in
theorem own_calls (w : World) {a : Option Addr} {us : List Nat} (ca : Nat) (hA : Sl16 w a us) (hl : us.length ≤ 1099511627776) :
    Calls Tryd.prog 100 #[.slice a us.length ca] w fun e w' => ∃ a', e = .returned (.slice a' us.length us.length) ∧ Clip16 w.heap.size w' a' us ∧ Below w.heap.size w w' := by
  obtain ⟨i45, hi45, ha1, ha2, ha3⟩ := info_parts info79
  have HA := Lib.hid (hA.below ((Below.refl _ w).alloc (Nat.le_refl _) (.cells #[] 128)))
  have HB := Lib.hid hA.bnd
  obtain ⟨n, hn⟩ : ∃ n, n = us.length := ⟨_, rfl⟩
  rw [← hn] at hl ⊢
  have HN := Lib.hid hn
  clear hn hA
  go_enter Tryd.func100, Tryd.ntmps100
  go_wp2_with (at_builtin; refine wpList_append_any _ rfl (.tmp 3) (.tmp 4) 63 rfl w.heap.size 128 i45 _ 1 2 Tryd.underlying63 hi45 ha1 ha2 ha3 rfl (by omega) _ 0 [] rfl (World.ownsRow_lit w #[] 0 (Nat.le_refl _) (by decide) rfl) a n ca (enc16 us) rfl (by rw [enc16_len, HN.out]; simp) (by rw [HN.out]; exact HA.out.src) enc16_one (by unfold maxLen; omega) (by omega) (by simp) ?_)
  intro a2 c2 w2 hown hgrow
  have hc := row_cap hown
  have hb : Below w.heap.size w w2 := ((FrT.refl [128] w.heap.size w).alloc (.cells #[] 128) |>.append (World.ownsRow_lit (size := 1) w #[] 0 (Nat.le_refl _) (by decide) rfl) (Nat.le_refl _) (by simp) hgrow).below (Nat.le_refl _)
  have HO := Lib.hid hown
  have HBL := Lib.hid hb
  clear hown hgrow hb
  go_wp2_with (go_at_call 111; refine (clip16 _ _ _ hc.2.1 hc.2.2 _).mono ?_; rintro e w3 ⟨rfl, rfl⟩)
  go_ret
  exact ⟨a2, rfl, ⟨⟨c2, by rw [← HN.out]; exact HO.out⟩, HB.out, by rw [← HN.out]; omega⟩, HBL.out⟩
structure LA where
  name : ByteArray
  va : Option Addr
  vc : Nat
  val : List Nat
def LA.cells (x : LA) : List Value := [.string x.name, .slice x.va x.val.length x.vc]
def LA.v (x : LA) : Value := .agg #[.string x.name, .slice x.va x.val.length x.vc]
def cellsA (L : List LA) : List Value := L.flatMap LA.cells
theorem cellsA_append (L M : List LA) : cellsA (L ++ M) = cellsA L ++ cellsA M := by simp [cellsA]
theorem cellsA_len (L : List LA) : (cellsA L).length = L.length * 2 := by
  induction L with
  | nil => rfl
  | cons x l ih =>
    have : cellsA (x :: l) = x.cells ++ cellsA l := rfl
    rw [this, List.length_append, ih]
    simp [LA.cells]
    omega
theorem cellsA_at {L : List LA} {i : Nat} {x : LA} (h : L[i]? = some x) : (cellsA L)[i * 2]? = some (.string x.name) ∧ (cellsA L)[i * 2 + 1]? = some (.slice x.va x.val.length x.vc) := by
  induction L generalizing i with
  | nil => simp at h
  | cons y l ih =>
    have e : cellsA (y :: l) = .string y.name :: .slice y.va y.val.length y.vc :: cellsA l := rfl
    cases i with
    | zero =>
      obtain rfl : y = x := by simpa using h
      rw [e]
      exact ⟨rfl, rfl⟩
    | succ i =>
      have h2 : l[i]? = some x := by simpa using h
      have h3 := ih h2
      rw [e, show (i + 1) * 2 = i * 2 + 1 + 1 by omega, show i * 2 + 1 + 1 + 1 = (i * 2 + 1) + 1 + 1 by omega]
      simpa using h3
theorem cellsA_one (L : List LA) : ∀ u ∈ cellsA L, u.oneCell' = true := by
  intro u hu
  obtain ⟨x, _, hx⟩ := List.mem_flatMap.1 hu
  rcases List.mem_cons.1 hx with rfl | hx
  · rfl
  · obtain rfl := by simpa using hx
    rfl
structure SlA (w : World) (a : Option Addr) (L : List LA) : Prop where
  at_ : ∀ (j : Nat) (u : Value), (cellsA L)[j]? = some u → ∃ b off, a = some ⟨b, off, none⟩ ∧ b < w.heap.size ∧ w.cell? ⟨b, off + j, none⟩ = some u
  len : L.length ≤ 4611686018427387903
  val : ∀ x ∈ L, Sl16 w x.va x.val
  nam : ∀ x ∈ L, x.name.size ≤ 9223372036854775807
theorem SlA.below {w w' : World} {a : Option Addr} {L : List LA} (h : SlA w a L) (hb : Below w.heap.size w w') : SlA w' a L :=
  ⟨fun j u hu => by
    obtain ⟨b, off, h2, h3, h4⟩ := h.at_ j u hu
    exact ⟨b, off, h2, Nat.lt_of_lt_of_le h3 hb.size, (hb.cell (p := ⟨b, off + j, none⟩) h3).trans h4⟩, h.len, fun x hx => (h.val x hx).below hb, h.nam⟩
theorem SlA.nil (w : World) (a : Option Addr) : SlA w a [] := ⟨fun i u hu => by simp [cellsA] at hu, by simp, by simp, by simp⟩
theorem SlA.get {w : World} {a : Option Addr} {L : List LA} (h : SlA w a L) {i : Nat} {x : LA} (hx : L[i]? = some x) :
    ∃ b off, a = some ⟨b, off, none⟩ ∧ b < w.heap.size ∧ w.cell? ⟨b, off + i * 2, none⟩ = some (.string x.name) ∧ w.cell? ⟨b, off + i * 2 + 1, none⟩ = some (.slice x.va x.val.length x.vc) := by
  obtain ⟨h1, h2⟩ := cellsA_at hx
  obtain ⟨b, off, e1, e2, e3⟩ := h.at_ _ _ h1
  obtain ⟨b', off', f1, f2, f3⟩ := h.at_ _ _ h2
  rw [e1] at f1
  cases f1
  exact ⟨b, off, e1, e2, e3, by rw [Nat.add_assoc]; exact f3⟩
structure Nd where
  kind : Int
  name : ByteArray
  da : Option Addr
  dc : Nat
  data : List Nat
  aa : Option Addr
  ac : Nat
  L : List LA
  slot : Int
  gen : Int
def Nd.cells (N : Nd) : Array Value := #[.int .i64 N.kind, .string N.name, .slice N.da N.data.length N.dc, .slice N.aa N.L.length N.ac, .int .u32 N.slot, .int .u32 N.gen]
def Nd.v (N : Nd) : Value := .agg N.cells
structure NdIn (w : World) (N : Nd) : Prop where
  data : Sl16 w N.da N.data
  attrs : SlA w N.aa N.L
  nam : N.name.size ≤ 9223372036854775807
  cap : N.data.length ≤ N.dc ∧ N.dc ≤ 9223372036854775807 ∧ N.L.length ≤ N.ac ∧ N.ac ≤ 9223372036854775807
theorem NdIn.below {w w' : World} {N : Nd} (h : NdIn w N) (hb : Below w.heap.size w w') : NdIn w' N := ⟨h.data.below hb, h.attrs.below hb, h.nam, h.cap⟩
structure Nd.Bd (N : Nd) (b : Nat) : Prop where
  data : N.data.length ≤ b
  attrs : N.L.length ≤ b
  val : ∀ x ∈ N.L, x.val.length ≤ b
def attrOf (x : LA) : ByteArray × List Nat := (x.name, x.val)
structure Nd.Same (M N : Nd) : Prop where
  kind : M.kind = N.kind
  name : M.name = N.name
  data : M.data = N.data
  attrs : M.L.map attrOf = N.L.map attrOf
  slot : M.slot = N.slot
  gen : M.gen = N.gen
theorem Nd.Same.len {M N : Nd} (h : M.Same N) : M.L.length = N.L.length := by have := congrArg List.length h.attrs; simpa using this
structure ClipA (B : Nat) (w : World) (a : Option Addr) (L : List LA) : Prop where
  row : ∃ cap, w.ownsRow B 114 2 (.slice a L.length cap) L.length (cellsA L)
  val : ∀ x ∈ L, Clip16 B w x.va x.val ∧ x.vc = x.val.length
  nam : ∀ x ∈ L, x.name.size ≤ 9223372036854775807
theorem ClipA.below {B : Nat} {w w' : World} {a : Option Addr} {L : List LA} (h : ClipA B w a L) (b : Below w.heap.size w w') : ClipA B w' a L :=
  ⟨by obtain ⟨cap, hr⟩ := h.row; exact ⟨cap, row_below hr b⟩, fun x hx => ⟨(h.val x hx).1.below b, (h.val x hx).2⟩, h.nam⟩
theorem row_src {w : World} {base : Nat} {e : TypeId} {size : Nat} {a : Option Addr} {n cap m : Nat} {xs : List Value} (h : w.ownsRow base e size (.slice a n cap) m xs) {j : Nat} {u : Value} (hu : xs[j]? = some u) :
    ∃ b, a = some ⟨b, 0, none⟩ ∧ b < w.heap.size ∧ w.cell? ⟨b, 0 + j, none⟩ = some u := by
  have hj : j < xs.length := (List.getElem?_eq_some_iff.1 hu).1
  have hx := h.1
  have hm : 0 < m := by rcases Nat.eq_zero_or_pos m with h0 | h0
                        · rw [h0, Nat.zero_mul] at hx; omega
                        · exact h0
  obtain ⟨g, c, hv, hb, hl⟩ := h.form hm
  obtain ⟨h1, h2, h3⟩ : a = some ⟨g, 0, none⟩ ∧ n = m ∧ cap = c := by simpa using hv
  subst h1 h2 h3
  refine ⟨g, rfl, (h.lt g rfl).2, ?_⟩
  rw [Nat.zero_add]
  exact (h.cellAt j (by rw [← hx]; exact hj)).trans hu
theorem ClipA.sl {B : Nat} {w : World} {a : Option Addr} {L : List LA} (h : ClipA B w a L) (hl : L.length ≤ 4611686018427387903) : SlA w a L := by
  obtain ⟨cap, hr⟩ := h.row
  exact ⟨fun j u hu => by obtain ⟨b, h1, h2, h3⟩ := row_src hr hu; exact ⟨b, 0, h1, h2, h3⟩, hl, fun x hx => (h.val x hx).1.sl, h.nam⟩
structure Fresh (B : Nat) (w : World) (N : Nd) : Prop where
  data : Clip16 B w N.da N.data
  dc : N.dc = N.data.length
  attrs : ClipA B w N.aa N.L
  ac : N.ac = N.L.length
  nam : N.name.size ≤ 9223372036854775807
  len : N.L.length ≤ 4611686018427387903
theorem Fresh.below {B : Nat} {w w' : World} {N : Nd} (h : Fresh B w N) (b : Below w.heap.size w w') : Fresh B w' N := ⟨h.data.below b, h.dc, h.attrs.below b, h.ac, h.nam, h.len⟩
theorem Fresh.nd {B : Nat} {w : World} {N : Nd} (h : Fresh B w N) : NdIn w N := ⟨h.data.sl, h.attrs.sl h.len, h.nam, by have h1 := h.dc; have h2 := h.ac; have h3 := h.data.len; have h4 := h.len; omega⟩
theorem beq0 (n : Nat) : ((n : Int) == 0) = (n == 0) := by cases n <;> rfl
def noName (nm : ByteArray) : Bool := decide (nm.toList = [])
def fitsD (k : Int) (nm : ByteArray) (dl al : Nat) : Bool :=
  if k = 1 then dl == 0
  else if k = 7 then al == 0
  else if k = 3 ∨ k = 8 then noName nm && al == 0
  else if k = 10 then dl == 0 && al == 0
  else if k = 9 ∨ k = 11 then noName nm && dl == 0 && al == 0
  else false
set_option maxHeartbeats 4000000 in
theorem fits_calls (w : World) (N : Nd) (h : NdIn w N) :
    Calls Tryd.prog 98 #[N.v] w fun e w' => e = .returned (.bool (fitsD N.kind N.name N.data.length N.L.length)) ∧ Below w.heap.size w w' := by
  obtain ⟨k, nm, da, dc, data, aa, ac, L, sl, ge⟩ := N
  simp only [Nd.v, Nd.cells] at *
  obtain ⟨n, en⟩ : ∃ n, n = L.length := ⟨_, rfl⟩
  obtain ⟨m, em⟩ : ∃ m, m = data.length := ⟨_, rfl⟩
  have hl1 := h.data.len
  have hl2 := h.attrs.len
  have hl3 := h.nam
  simp only [] at hl1 hl2 hl3
  rw [← en] at hl2 ⊢
  rw [← em] at hl1 ⊢
  clear en em h
  go_enter Tryd.func98, Tryd.ntmps98
  go_wp2_with fail
  all_goals go_ret
  all_goals refine ⟨?_, (by repeat (first | exact Below.refl _ _ | assumption | refine Below.drew ?_ | refine below_drewN ?_ _ | refine Below.alloc ?_ (by simp <;> omega) _ | refine Below.setCell ?_ (by simp <;> omega) _ | (apply bl_trans; assumption; (simp <;> omega))))⟩
  all_goals simp_all [fitsD, noName]
  all_goals first | exact beq0 _ | (rw [beq0] <;> simp_all) | (simp_all [beq0])
set_option maxHeartbeats 4000000 in
theorem eq16_calls {w : World} {a b : Option Addr} {us vs : List Nat} (ca cb : Nat) (ha : Sl16 w a us) (hb : Sl16 w b vs) :
    Calls Tryd.prog 77 #[.slice a us.length ca, .slice b vs.length cb] w fun e w' => e = .returned (.bool (decide (us = vs))) ∧ ∃ k, w.drewN k = w' := by
  obtain ⟨n, en⟩ : ∃ n, n = us.length := ⟨_, rfl⟩
  obtain ⟨m, em⟩ : ∃ m, m = vs.length := ⟨_, rfl⟩
  have hl1 := ha.len
  have hl2 := hb.len
  rw [← en] at hl1 ⊢
  rw [← em] at hl2 ⊢
  have HN := Lib.hid en
  have HM := Lib.hid em
  have HA := Lib.hid ha
  have HB := Lib.hid hb
  clear en em ha hb
  by_cases hnm : n = m
  · subst hnm
    obtain ⟨r, hr⟩ : ∃ r, r = decide (us = vs) := ⟨_, rfl⟩
    rw [← hr]
    have HR := Lib.hid hr
    clear hr
    go_enter Tryd.func77, Tryd.ntmps77
    go_wp2_with fail
    go_loopw [13] (fun v wr => ∃ i k : Nat, v = .int .i64 (i : Nat) ∧ i ≤ n ∧ (∀ j, j < i → us[j]? = vs[j]?) ∧ wr = w.drewN k) (fun v _ => n - (intOf v).toNat)
    case atStart => exact ⟨0, 0, rfl, Nat.zero_le _, fun j hj => absurd hj (by omega), rfl⟩
    case round =>
      obtain ⟨i, k, rfl, hi, heq, rfl⟩ := hrel
      have HE := Lib.hid heq
      clear heq
      by_cases h1 : i < n
      · obtain ⟨u, hu⟩ : ∃ u, us[i]? = some u := ⟨_, List.getElem?_eq_getElem (by rw [← HN.out]; exact h1)⟩
        obtain ⟨hu1, b1, o1, rfl, hb1, c1⟩ := HA.out.at_ i u hu
        obtain ⟨v, hv⟩ : ∃ v, vs[i]? = some v := ⟨_, List.getElem?_eq_getElem (by rw [← HM.out]; exact h1)⟩
        obtain ⟨hv1, b2, o2, rfl, hb2, c2⟩ := HB.out.at_ i v hv
        have HU := Lib.hid hu
        have HV := Lib.hid hv
        clear hu hv
        have p0 : (0 : Int) ≤ (i : Int) := by omega
        have p1 : (i : Int) < (n : Int) := by omega
        by_cases hne : u = v
        · subst hne
          have q : ((u : Int) != (u : Int)) = false := by simp
          go_wp2_with fail
          go_quiet (fail)
          go_wp2
          go_roundw
          case rel => exact ⟨i + 1, _, by go_num, h1, fun j hj => by
              rcases Nat.lt_or_ge j i with h | h
              · exact HE.out j h
              · obtain rfl : j = i := by omega
                rw [HU.out, HV.out], rfl⟩
          case measure => simp [intOf]; omega
        · have hrf : r = false := by
            rw [HR.out]
            refine decide_eq_false (fun e => hne ?_)
            have := HU.out
            rw [e, HV.out] at this
            exact (Option.some.inj this).symm
          have q : ((u : Int) != (v : Int)) = true := by simp; omega
          have HRF := Lib.hid hrf
          clear hrf
          go_wp2_with fail
          go_quiet (fail)
          go_wp2
          go_ret
          exact ⟨by rw [HRF.out]; rfl, _, by rw [World.drewN_drewN]⟩
      · obtain rfl : i = n := by omega
        have hrf : r = true := by
          rw [HR.out]
          refine decide_eq_true (List.ext_getElem? (fun j => ?_))
          rcases Nat.lt_or_ge j i with h | h
          · exact HE.out j h
          · rw [List.getElem?_eq_none (by rw [← HN.out]; exact h), List.getElem?_eq_none (by rw [← HM.out]; exact h)]
        have HRF := Lib.hid hrf
        have p1 : ¬ (i : Int) < (i : Int) := by omega
        clear hrf h1
        go_wp2_with fail
        go_ret
        exact ⟨by rw [HRF.out]; rfl, _, rfl⟩
  · have hne : us ≠ vs := fun e => hnm (by rw [HN.out, HM.out, e])
    rw [decide_eq_false hne]
    have q : ((n : Int) != (m : Int)) = true := by simp; omega
    clear hne
    go_enter Tryd.func77, Tryd.ntmps77
    go_wp2
    go_ret
    exact ⟨rfl, 0, rfl⟩
def eqAt (x y : LA) : Bool := x.name.toList == y.name.toList && decide (x.val = y.val)
set_option maxHeartbeats 4000000 in
theorem eqAt_calls (w : World) (x y : LA) (hx : Sl16 w x.va x.val) (hy : Sl16 w y.va y.val) :
    Calls Tryd.prog 86 #[x.v, y.v] w fun e w' => e = .returned (.bool (eqAt x y)) ∧ Below w.heap.size w w' := by
  have hb : Below w.heap.size w ((w.alloc (.cells #[.string x.name, .slice x.va x.val.length x.vc] 114)).alloc (.cells #[.string y.name, .slice y.va y.val.length y.vc] 114)) := ((Below.refl _ w).alloc (Nat.le_refl _) _).alloc (by simp) _
  have he := eq16_calls x.vc y.vc (hx.below hb) (hy.below hb)
  obtain ⟨r, hr⟩ : ∃ r, r = eqAt x y := ⟨_, rfl⟩
  rw [← hr]
  unfold LA.v
  unfold eqAt at hr
  cases hn : (x.name.toList == y.name.toList) with
  | false =>
    rw [hn, Bool.false_and] at hr
    subst hr
    have HBB := Lib.hid hb
    clear he hb
    go_enter Tryd.func86, Tryd.ntmps86
    go_wp2
    go_ret
    exact ⟨rfl, HBB.out⟩
  | true =>
    rw [hn, Bool.true_and] at hr
    rw [← hr] at he
    have HE := Lib.hid he
    have HBB := Lib.hid hb
    clear he hb hr
    go_enter Tryd.func86, Tryd.ntmps86
    go_wp2_with (go_at_call 77; refine HE.out.mono ?_; rintro e w2 ⟨rfl, k, rfl⟩)
    go_ret
    exact ⟨by first | rfl | (cases r <;> rfl), HBB.out.trans (((FrT.refl [] _ _).drewN k).below (Nat.le_refl _) |>.mono (by simp; omega))⟩
set_option maxHeartbeats 4000000 in
theorem runits_calls {w : World} {a b : Option Addr} {us vs : List Nat} (ca cb : Nat) (ha : Sl16 w a us) (hb : Sl16 w b vs) :
    Calls Tryd.prog 88 #[.slice a us.length ca, .slice b vs.length cb] w fun e w' => e = .returned (.bool (decide (us = vs))) ∧ ∃ k, w.drewN k = w' := by
  obtain ⟨n, en⟩ : ∃ n, n = us.length := ⟨_, rfl⟩
  obtain ⟨m, em⟩ : ∃ m, m = vs.length := ⟨_, rfl⟩
  have hl1 := ha.len
  have hl2 := hb.len
  rw [← en] at hl1 ⊢
  rw [← em] at hl2 ⊢
  have HN := Lib.hid en
  have HM := Lib.hid em
  have HA := Lib.hid ha
  have HB := Lib.hid hb
  clear en em ha hb
  by_cases hnm : n = m
  · subst hnm
    obtain ⟨r, hr⟩ : ∃ r, r = decide (us = vs) := ⟨_, rfl⟩
    rw [← hr]
    have HR := Lib.hid hr
    clear hr
    go_enter Tryd.func88, Tryd.ntmps88
    go_wp2_with fail
    go_loopw [5] (fun v wr => ∃ i k : Nat, v = .int .i64 (i : Nat) ∧ i ≤ n ∧ (∀ j, j < i → us[j]? = vs[j]?) ∧ wr = w.drewN k) (fun v _ => n - (intOf v).toNat)
    case atStart => exact ⟨0, 0, rfl, Nat.zero_le _, fun j hj => absurd hj (by omega), rfl⟩
    case round =>
      obtain ⟨i, k, rfl, hi, heq, rfl⟩ := hrel
      have HE := Lib.hid heq
      clear heq
      by_cases h1 : i < n
      · obtain ⟨u, hu⟩ : ∃ u, us[i]? = some u := ⟨_, List.getElem?_eq_getElem (by rw [← HN.out]; exact h1)⟩
        obtain ⟨hu1, b1, o1, rfl, hb1, c1⟩ := HA.out.at_ i u hu
        obtain ⟨v, hv⟩ : ∃ v, vs[i]? = some v := ⟨_, List.getElem?_eq_getElem (by rw [← HM.out]; exact h1)⟩
        obtain ⟨hv1, b2, o2, rfl, hb2, c2⟩ := HB.out.at_ i v hv
        have HU := Lib.hid hu
        have HV := Lib.hid hv
        clear hu hv
        have p0 : (0 : Int) ≤ (i : Int) := by omega
        have p1 : (i : Int) < (n : Int) := by omega
        by_cases hne : u = v
        · subst hne
          have q : ((u : Int) != (u : Int)) = false := by simp
          go_wp2_with fail
          go_quiet (fail)
          go_wp2
          go_roundw
          case rel => exact ⟨i + 1, _, by go_num, h1, fun j hj => by
              rcases Nat.lt_or_ge j i with h | h
              · exact HE.out j h
              · obtain rfl : j = i := by omega
                rw [HU.out, HV.out], rfl⟩
          case measure => simp [intOf]; omega
        · have hrf : r = false := by
            rw [HR.out]
            refine decide_eq_false (fun e => hne ?_)
            have := HU.out
            rw [e, HV.out] at this
            exact (Option.some.inj this).symm
          have q : ((u : Int) != (v : Int)) = true := by simp; omega
          have HRF := Lib.hid hrf
          clear hrf
          go_wp2_with fail
          go_quiet (fail)
          go_wp2
          go_ret
          exact ⟨by rw [HRF.out]; rfl, _, by rw [World.drewN_drewN]⟩
      · obtain rfl : i = n := by omega
        have hrf : r = true := by
          rw [HR.out]
          refine decide_eq_true (List.ext_getElem? (fun j => ?_))
          rcases Nat.lt_or_ge j i with h | h
          · exact HE.out j h
          · rw [List.getElem?_eq_none (by rw [← HN.out]; exact h), List.getElem?_eq_none (by rw [← HM.out]; exact h)]
        have HRF := Lib.hid hrf
        have p1 : ¬ (i : Int) < (i : Int) := by omega
        clear hrf h1
        go_wp2_with fail
        go_ret
        exact ⟨by rw [HRF.out]; rfl, _, rfl⟩
  · have hne : us ≠ vs := fun e => hnm (by rw [HN.out, HM.out, e])
    rw [decide_eq_false hne]
    have q : ((n : Int) != (m : Int)) = true := by simp; omega
    clear hne
    go_enter Tryd.func88, Tryd.ntmps88
    go_wp2
    go_ret
    exact ⟨rfl, 0, rfl⟩
end Go.Proofs.YtelhnaphkbpakaaDoor
namespace Go.Proofs.YtelhnaphkbpakaaDoor
open Go.RowKit Go.Shelf
attribute [local go_sem] Oper.semAt_some
set_option linter.unusedVariables false
set_option maxRecDepth 100000
theorem roomAny {F : Fence} (hd : F.depth = none) (k : Nat) : F.room k := fun d h => by rw [hd] at h; cases h
theorem roundAny {F : Fence} (hd : F.depth = none) {m m' : Nat} {P : Program} {l : Nat} {f : FuncId} {tmps : Array Value} {assign body : Code} {w : World} {R : Ending → World → Prop} (h : RoundIn F m P l f tmps assign body w R) : RoundIn F m' P l f tmps assign body w R := ⟨h.1, fun c cs _ => h.2 c cs (roomAny hd _)⟩
theorem yieldAny {F : Fence} (hd : F.depth = none) {m : Nat} (m' : Nat) {P : Program} {l : Nat} {args : Array Value} {W : World} {R : Ending → World → Prop} (h : YieldAt F m P l args W R) : YieldAt F m' P l args W R := by
  obtain ⟨fn, tmps, assign, body, hy, hR⟩ := h
  exact ⟨fn, tmps, assign, body, hy, roundAny hd hR⟩
structure KpY (t : TypeId) (n0 : Nat) (W W' : World) : Prop where
  below : Below n0 W W'
  walks : KeepsWalks W W'
  box : ∀ (k : Nat) (c : Array Value) (fz : Nat × Nat), W.heap[k]? = some (.cells c t fz) → W'.heap[k]? = some (.cells c t fz)
theorem KpY.trans {t : TypeId} {n0 : Nat} {A B C : World} (h : KpY t n0 A B) (k : KpY t n0 B C) : KpY t n0 A C := ⟨h.below.trans k.below, h.walks.trans k.walks, fun i c fz e => k.box i c fz (h.box i c fz e)⟩
theorem kpY_b {t : TypeId} {n0 : Nat} {w : World} (hn : n0 ≤ w.heap.size) (W : World) (l : Nat) (o o' : Obj) (hl : w.heap.size ≤ l) (h : W.heap[l]? = some o) (h1 : o.isCells = false) (h2 : o.isWalk = false) : KpY t n0 W (W.putObj l o') :=
  ⟨belowK_b hn W l o o' hl h h1 h2, KeepsWalks.putObj o' h h2, fun k c fz e => (World.putObj_heap_other (fun e1 => by subst e1; rw [h] at e; cases e; cases h1)).trans e⟩
def badL (l : List Pc) : List Pc := l.filter fun x => !x.ok
theorem badL_snoc (l : List Pc) (x : Pc) : badL (l ++ [x]) = badL l ++ if x.ok then [] else [x] := by cases h : x.ok <;> simp [badL, h]
def encBd (x : Pc) : Array Value := #[.int .i64 (x.p : Int), .int .i64 (x.n : Int)]
theorem bad_calls (s : ByteArray) (w : World) :
    Calls Tryd.prog 110 #[.string s] w fun e w' => e = .returned (.func (.func 117) #[] #[.pointer (some ⟨w.heap.size, 0, none⟩)]) ∧ w' = w.alloc (.cells #[.string s] 9) := by
  go_enter Tryd.func110, Tryd.ntmps110
  go_wp2
  go_ret
  exact ⟨rfl, rfl⟩
set_option maxHeartbeats 2000000 in
theorem bad_yield (m l yb : Nat) (at_ n c : Int) (bad : Bool) (W : World) (R : Ending → World → Prop) (hyb : W.heap[yb]? = some (.cells #[.func (.yield l) #[] #[]] 47 (0, 0)))
    (hgood : bad = false → R (.returned (.bool true)) W)
    (hY : bad = true → YieldAt Fence.wide (m - 1) Tryd.prog l #[.int .i64 at_, .int .i64 n] W (fun e W' => (e = .returned (.bool true) ∧ R (.returned (.bool true)) W') ∨ (e = .returned (.bool false) ∧ R (.returned (.bool false)) W'))) :
    CallsIn Fence.wide m Tryd.prog 119 #[.int .i64 at_, .int .i64 n, .int .i32 c, .bool bad, .pointer (some ⟨yb, 0, none⟩)] W R := by
  have HG := Lib.hid hgood
  have c0 := cell_blk hyb 0 rfl
  simp at c0
  clear hgood
  cases bad with
  | false =>
    clear hY
    refine callsIn_of_wp Tryd.func119 rfl trivial ?_ rfl
    simp only [Tryd.ntmps119, List.size_toArray, List.length_cons, List.length_nil, Nat.reduceAdd, Nat.reduceSub, Array.replicate_succ, Array.replicate_zero, List.push_toArray, List.append_toArray, List.nil_append, List.cons_append]
    gi_wp2
    refine ⟨fun _ h => (by cases h), ?_⟩
    gi_wp2
    exact HG.out trivial
  | true =>
    obtain ⟨fn, tmps, assign, body, hy, hR⟩ := hY rfl
    clear hY
    refine callsIn_of_wp Tryd.func119 rfl trivial ?_ rfl
    simp only [Tryd.ntmps119, List.size_toArray, List.length_cons, List.length_nil, Nat.reduceAdd, Nat.reduceSub, Array.replicate_succ, Array.replicate_zero, List.push_toArray, List.append_toArray, List.nil_append, List.cons_append]
    gi_wp2
    refine ⟨fun h => (by cases h), ?_⟩
    refine hR.mono ?_
    rintro e W' (⟨rfl, hr⟩ | ⟨rfl, hr⟩)
    · have HRR := Lib.hid hr
      clear hr
      gi_wp2
      exact HRR.out
    · have HRR := Lib.hid hr
      clear hr
      gi_wp2
      exact HRR.out
set_option maxHeartbeats 2000000 in
theorem bad1_in (n : Nat) (l Bn : Nat) (s : ByteArray) (hs : s.size ≤ 1099511627776) {w0 : World} (J Jx : List Pc → World → Prop) (W : World) (hJ : AbidesFrom W.heap.size J)
    (hY : ∀ pre x W1, J pre W1 → pre.length < (badL (pcs s)).length → YieldAt Fence.wide (n - 1) Tryd.prog l (encBd x) W1 fun e W' =>
      (e = .returned (.bool true) ∧ J (pre ++ [x]) W' ∧ KpY 47 w0.heap.size W1 W') ∨ (e = .returned (.bool false) ∧ Jx (pre ++ [x]) W'))
    (hBn : W.heap[Bn]? = some (.cells #[.string s] 9 (0, 0))) (h0 : J [] W) :
    CallsIn Fence.wide n Tryd.prog 117 #[.func (.yield l) #[] #[], .pointer (some ⟨Bn, 0, none⟩)] W fun e W' => (∃ v, e = .returned v) ∧
      ((∃ ys, ys = badL (pcs s) ∧ J ys W') ∨ (∃ pre, pre <+: badL (pcs s) ∧ Jx pre W')) := by
  have c0 := cell_blk hBn 0 rfl
  have lB := lt_of_some hBn
  have HY := Lib.hid hY
  have HJ := Lib.hid hJ
  have hyield : ∀ pre x W1, (J (badL pre) W1 ∧ W1.heap[W.heap.size]? = some (.cells #[.func (.yield l) #[] #[]] 47 (0, 0))) → (∃ rest, pcs s = pre ++ x :: rest) → CallsIn Fence.wide (3 - 1) Tryd.prog 119 #[.int .i64 (x.p : Int), .int .i64 (x.n : Int), .int .i32 (x.c : Int), .bool (!x.ok), .pointer (some ⟨W.heap.size, 0, none⟩)] W1 fun e W' =>
      (e = .returned (.bool true) ∧ (J (badL (pre ++ [x])) W' ∧ W'.heap[W.heap.size]? = some (.cells #[.func (.yield l) #[] #[]] 47 (0, 0))) ∧ KeepsWalks W1 W') ∨ (e = .returned (.bool false) ∧ Jx (badL (pre ++ [x])) W') := by
    rintro pre x W1 ⟨hj, hb⟩ ⟨rest, hrest⟩
    refine bad_yield (3 - 1) l W.heap.size _ _ _ _ _ (fun e W' =>
      (e = .returned (.bool true) ∧ (J (badL (pre ++ [x])) W' ∧ W'.heap[W.heap.size]? = some (.cells #[.func (.yield l) #[] #[]] 47 (0, 0))) ∧ KeepsWalks W1 W') ∨ (e = .returned (.bool false) ∧ Jx (badL (pre ++ [x])) W')) hb ?_ ?_
    · intro hok
      have hok' : x.ok = true := by simpa using hok
      refine .inl ⟨rfl, ⟨?_, hb⟩, KeepsWalks.refl _⟩
      rw [badL_snoc, hok', if_pos rfl, List.append_nil]
      exact hj
    · intro hok
      have hok' : x.ok = false := by simpa using hok
      have hlt : (badL pre).length < (badL (pcs s)).length := by
        rw [hrest]
        simp [badL, hok']
      have e : badL (pre ++ [x]) = badL pre ++ [x] := by rw [badL_snoc, hok']; rfl
      refine (yieldAny rfl (3 - 1 - 1) (HY.out (badL pre) x W1 hj hlt)).mono ?_
      rw [e]
      rintro e W' (⟨rfl, h1, h2⟩ | ⟨rfl, h1⟩)
      · exact .inl ⟨rfl, .inl ⟨rfl, ⟨h1, h2.box _ _ _ hb⟩, h2.walks⟩⟩
      · exact .inr ⟨rfl, .inr ⟨rfl, h1⟩⟩
  have hread := read_in 3 119 W.heap.size (by omega) s (by omega) (fun pre W1 => J (badL pre) W1 ∧ W1.heap[W.heap.size]? = some (.cells #[.func (.yield l) #[] #[]] 47 (0, 0))) (fun pre W1 => Jx (badL pre) W1) (W.alloc (.cells #[.func (.yield l) #[] #[]] 47)) (fun args w => Go.MuLone.run_callFunc_enter (P := Tryd.prog) (f := 119) (fn := Tryd.f119) Tryd.func119 (by kernel_rfl) rfl args w)
    (fun pre A B row hj hg hr => ⟨HJ.out _ A B row hj.1 hg (fun r e => by obtain ⟨h1, h2⟩ := hr r e; exact ⟨by simp at h1; omega, h2⟩), blkGrow hj.2 hg (fun r e => by obtain ⟨_, o, ho, hw⟩ := hr r e; exact ⟨o, ho, Obj.not_cells_of_walk hw⟩)⟩)
    hyield ⟨HJ.out [] W _ none h0 (World.grownBy_alloc W _ none) (fun r e => by cases e), Go.heap_alloc_new W _⟩
  have HR := Lib.hid hread
  simp at c0
  clear hread hyield hY hJ hBn
  refine callsIn_of_wp Tryd.func117 rfl trivial ?_ rfl
  simp only [Tryd.ntmps117, List.size_toArray, List.length_cons, List.length_nil, Nat.reduceAdd, Nat.reduceSub, Array.replicate_succ, Array.replicate_zero, List.push_toArray, List.append_toArray, List.nil_append, List.cons_append]
  gi_wp2_with fail
  refine ⟨trivial, fun h => (by cases h), ?_⟩
  refine (callsIn_wide.2 (callsIn_wide.1 HR.out)).mono ?_
  rintro e W' ⟨⟨v, rfl⟩, hor⟩
  have HO := Lib.hid hor
  clear hor
  gi_wp2
  go_end0
  refine ⟨⟨_, rfl⟩, ?_⟩
  rcases HO.out with h | ⟨pre, ⟨r, hr⟩, h⟩
  · exact .inl ⟨_, rfl, h.1⟩
  · exact .inr ⟨badL pre, ⟨badL r, by rw [← hr]; simp [badL]⟩, h⟩
theorem bad_stops (n Bn : Nat) (s : ByteArray) (hs : s.size ≤ 1099511627776) {w0 : World} (w : World) (hBn : w.heap[Bn]? = some (.cells #[.string s] 9 (0, 0))) :
    SeqStopsK Fence.wide n Tryd.prog 117 #[.pointer (some ⟨Bn, 0, none⟩)] encBd (KpY 47 w0.heap.size) (fun ys => ys = badL (pcs s)) (fun pre => pre <+: badL (pcs s)) (badL (pcs s)).length w := fun l J Jx W hW hJ _ hY h0 =>
  bad1_in n l Bn s hs J Jx W hJ hY ((hW.block _ (lt_of_some hBn)).trans hBn) h0
end Go.Proofs.YtelhnaphkbpakaaDoor
