/- Part 5 of the proof of TpP: lemmas. -/
import Derived.Deep.RegionWith
import Derived.StillTailTactics
import Derived.Deep.Upon
import Derived.Deep.AppendLies
import Derived.Lib.AppendZeros
import Derived.Conc.MuLone
import Derived.Laws.BytesArg
import Derived.Laws.IdiomStrings
import Derived.Test.YtelhnaphkbpakaaDoorMp4
namespace Go.Proofs.YtelhnaphkbpakaaDoor
open Go.RowKit
set_option linter.unusedVariables false
set_option maxRecDepth 100000
structure Sl16 (w : World) (a : Option Addr) (us : List Nat) : Prop where
  at_ : ∀ (i u : Nat), us[i]? = some u → u ≤ 65535 ∧ ∃ b off, a = some ⟨b, off, none⟩ ∧ b < w.heap.size ∧ w.cell? ⟨b, off + i, none⟩ = some (.int .u16 (u : Int))
  len : us.length ≤ 9223372036854775807
theorem Sl16.below {w w' : World} {a : Option Addr} {us : List Nat} (h : Sl16 w a us) (hb : Below w.heap.size w w') : Sl16 w' a us :=
  ⟨fun i u hu => by
    obtain ⟨h1, b, off, h2, h3, h4⟩ := h.at_ i u hu
    exact ⟨h1, b, off, h2, Nat.lt_of_lt_of_le h3 hb.size, (hb.cell (p := ⟨b, off + i, none⟩) h3).trans h4⟩, h.len⟩
theorem Sl16.nil (w : World) (a : Option Addr) : Sl16 w a [] := ⟨fun i u hu => by simp at hu, by simp⟩
def cmp16 : List Nat → List Nat → Int
  | [], [] => 0
  | [], _ :: _ => -1
  | _ :: _, [] => 1
  | x :: xs, y :: ys => if x = y then cmp16 xs ys else if x < y then -1 else 1
theorem cmp16_drop {a b : List Nat} {i : Nat} (h : ∀ j, j < i → a[j]? = b[j]?) (ha : i ≤ a.length) (hb : i ≤ b.length) : cmp16 a b = cmp16 (a.drop i) (b.drop i) := by
  induction i generalizing a b with
  | zero => rfl
  | succ i ih =>
    cases a with
    | nil => simp at ha
    | cons x xs =>
      cases b with
      | nil => simp at hb
      | cons y ys =>
        have h0 := h 0 (by omega)
        simp at h0
        subst h0
        simp only [List.drop_succ_cons, List.length_cons] at *
        simp only [cmp16, if_true]
        exact ih (fun j hj => by have := h (j + 1) (by omega); simpa using this) (by omega) (by omega)
theorem drop_at {a : List Nat} {i u : Nat} (h : a[i]? = some u) : a.drop i = u :: a.drop (i + 1) := by
  obtain ⟨hi, rfl⟩ := List.getElem?_eq_some_iff.1 h
  exact List.drop_eq_getElem_cons hi
theorem cmp16_at {a b : List Nat} {i x y : Nat} (h : ∀ j, j < i → a[j]? = b[j]?) (hx : a[i]? = some x) (hy : b[i]? = some y) (hne : x ≠ y) : cmp16 a b = if x < y then -1 else 1 := by
  have h1 := (List.getElem?_eq_some_iff.1 hx).1
  have h2 := (List.getElem?_eq_some_iff.1 hy).1
  rw [cmp16_drop h (by omega) (by omega), drop_at hx, drop_at hy]
  simp only [cmp16, hne, if_false]
theorem cmp16_end {a b : List Nat} {i : Nat} (h : ∀ j, j < i → a[j]? = b[j]?) (ha : i ≤ a.length) (hb : i ≤ b.length) (he : i = a.length ∨ i = b.length) : cmp16 a b = if a.length < b.length then -1 else if b.length < a.length then 1 else 0 := by
  rw [cmp16_drop h ha hb]
  rcases he with rfl | rfl
  · rw [List.drop_length]
    by_cases h1 : a.length < b.length
    · obtain ⟨u, hu⟩ : ∃ u, b[a.length]? = some u := ⟨_, List.getElem?_eq_getElem h1⟩
      rw [drop_at hu, if_pos h1]; rfl
    · have : b.length = a.length := by omega
      rw [List.drop_of_length_le (by omega), if_neg h1, if_neg (by omega)]; rfl
  · rw [List.drop_length]
    by_cases h1 : b.length < a.length
    · obtain ⟨u, hu⟩ : ∃ u, a[b.length]? = some u := ⟨_, List.getElem?_eq_getElem h1⟩
      rw [drop_at hu, if_neg (by omega), if_pos h1]; rfl
    · have : b.length = a.length := by omega
      rw [List.drop_of_length_le (by omega), if_neg (by omega), if_neg h1]; rfl
theorem nan_false (x : Int) (w : World) : Calls Tryd.prog 121 #[.int .u16 x] w fun e w' => e = .returned (.bool false) ∧ w = w' := by
  go_enter Tryd.func121, Tryd.ntmps121
  go_wp2
  go_ret
  exact ⟨by first | rfl | simp, rfl⟩
def cmpI (x y : Int) : Int := if x < y then -1 else if y < x then 1 else 0
theorem cmp_unit (x y : Int) (w : World) : Calls Tryd.prog 115 #[.int .u16 x, .int .u16 y] w fun e w' => e = .returned (.int .i64 (cmpI x y)) ∧ w = w' := by
  by_cases h1 : x < y
  · rw [show cmpI x y = -1 by simp [cmpI, h1]]
    go_enter Tryd.func115, Tryd.ntmps115
    go_wp2_with (go_at_call 121; refine (nan_false _ _).mono ?_; rintro e w2 ⟨rfl, rfl⟩)
    go_ret
    exact ⟨rfl, rfl⟩
  · by_cases h2 : y < x
    · rw [show cmpI x y = 1 by simp [cmpI, h1, h2]]
      go_enter Tryd.func115, Tryd.ntmps115
      go_wp2_with (go_at_call 121; refine (nan_false _ _).mono ?_; rintro e w2 ⟨rfl, rfl⟩)
      go_ret
      exact ⟨rfl, rfl⟩
    · rw [show cmpI x y = 0 by simp [cmpI, h1, h2]]
      go_enter Tryd.func115, Tryd.ntmps115
      go_wp2_with (go_at_call 121; refine (nan_false _ _).mono ?_; rintro e w2 ⟨rfl, rfl⟩)
      go_ret
      exact ⟨rfl, rfl⟩
set_option maxHeartbeats 2000000 in
theorem slices_compare {w : World} {a b : Option Addr} {us vs : List Nat} (ca cb : Nat) (ha : Sl16 w a us) (hb : Sl16 w b vs) :
    Calls Tryd.prog 107 #[.slice a us.length ca, .slice b vs.length cb] w fun e w' => e = .returned (.int .i64 (cmp16 us vs)) ∧ w = w' := by
  have HA := Lib.hid ha
  have HB := Lib.hid hb
  have l1 := ha.len
  have l2 := hb.len
  clear ha hb
  obtain ⟨n, hn⟩ : ∃ n, n = us.length := ⟨_, rfl⟩
  obtain ⟨m, hm⟩ : ∃ m, m = vs.length := ⟨_, rfl⟩
  rw [← hn] at l1 ⊢
  rw [← hm] at l2 ⊢
  have HN := Lib.hid hn
  have HM := Lib.hid hm
  clear hn hm
  go_enter Tryd.func107, Tryd.ntmps107
  go_wp2_with fail
  go_loopw [11] (fun v wr => ∃ i : Nat, v = .int .i64 (i : Nat) ∧ i ≤ n ∧ i ≤ m ∧ (∀ j, j < i → us[j]? = vs[j]?) ∧ wr = w) (fun v _ => n - (intOf v).toNat)
  case atStart => exact ⟨0, rfl, Nat.zero_le _, Nat.zero_le _, fun j hj => absurd hj (by omega), rfl⟩
  case round =>
    obtain ⟨i, rfl, hi1, hi2, heq, rfl⟩ := hrel
    have HE := Lib.hid heq
    clear heq
    by_cases h1 : i < n
    · obtain ⟨u, hu⟩ : ∃ u, us[i]? = some u := ⟨_, List.getElem?_eq_getElem (by rw [← HN.out]; exact h1)⟩
      obtain ⟨hu1, b1, o1, rfl, hb1, c1⟩ := HA.out.at_ i u hu
      have HU := Lib.hid hu
      clear hu
      have p1 : (i : Int) < (n : Int) := by omega
      by_cases h2 : i < m
      · obtain ⟨v, hv⟩ : ∃ v, vs[i]? = some v := ⟨_, List.getElem?_eq_getElem (by rw [← HM.out]; exact h2)⟩
        obtain ⟨hv1, b2, o2, rfl, hb2, c2⟩ := HB.out.at_ i v hv
        have HV := Lib.hid hv
        clear hv
        have p2 : ¬ ((m : Int) ≤ (i : Int)) := by omega
        by_cases hne : u = v
        · subst hne
          have q : cmpI (u : Int) (u : Int) = 0 := by simp [cmpI]
          go_wp2_with (go_at_call 115; refine (cmp_unit _ _ _).mono ?_; rw [q]; rintro e w2 ⟨rfl, rfl⟩)
          go_roundw
          case rel => exact ⟨i + 1, by go_num, h1, h2, fun j hj => by
            rcases Nat.lt_or_ge j i with h | h
            · exact HE.out j h
            · obtain rfl : j = i := by omega
              rw [HU.out, HV.out], trivial⟩
          case measure => simp [intOf]; omega
        · have hc := cmp16_at HE.out HU.out HV.out hne
          have q : cmpI (u : Int) (v : Int) = cmp16 us vs := by
            rw [hc]; unfold cmpI
            by_cases h3 : u < v
            · rw [if_pos (by omega), if_pos h3]
            · rw [if_neg (by omega), if_pos (by omega), if_neg h3]
          have q0 : cmp16 us vs = -1 ∨ cmp16 us vs = 1 := by rw [hc]; by_cases h3 : u < v <;> simp [h3]
          clear hc hne
          rcases q0 with q0 | q0
          all_goals
            rw [q0] at q
            have Q0 := Lib.hid q0
            clear q0
            go_wp2_with (go_at_call 115; refine (cmp_unit _ _ _).mono ?_; rw [q]; rintro e w2 ⟨rfl, rfl⟩)
            go_ret
            exact ⟨by rw [Q0.out]; rfl, rfl⟩
      · have p2 : ((m : Int) ≤ (i : Int)) := by omega
        have hc := cmp16_end HE.out (by rw [← HN.out]; omega) (by rw [← HM.out]; omega) (.inr (by rw [← HM.out]; omega))
        rw [if_neg (by rw [← HN.out, ← HM.out]; omega), if_pos (by rw [← HN.out, ← HM.out]; omega)] at hc
        have HC := Lib.hid hc
        clear hc
        go_wp2
        go_ret
        exact ⟨by rw [HC.out]; rfl, rfl⟩
    · have p1 : ¬ ((i : Int) < (n : Int)) := by omega
      have hc := cmp16_end HE.out (by rw [← HN.out]; omega) (by rw [← HM.out]; omega) (.inl (by rw [← HN.out]; omega))
      rw [← HN.out, ← HM.out] at hc
      by_cases h3 : n < m
      · have p3 : (n : Int) < (m : Int) := by omega
        rw [if_pos h3] at hc
        have HC := Lib.hid hc
        clear hc h3
        go_wp2
        go_ret
        exact ⟨by rw [HC.out]; rfl, rfl⟩
      · have p3 : ¬ (n : Int) < (m : Int) := by omega
        rw [if_neg h3, if_neg (by omega)] at hc
        have HC := Lib.hid hc
        clear hc h3
        go_wp2
        go_ret
        exact ⟨by rw [HC.out]; rfl, rfl⟩
theorem wide_compare {w : World} {a b : Option Addr} {us vs : List Nat} (ca cb : Nat) (ha : Sl16 w a us) (hb : Sl16 w b vs) :
    Calls Tryd.prog 84 #[.slice a us.length ca, .slice b vs.length cb] w fun e w' => e = .returned (.int .i64 (cmp16 us vs)) ∧ w = w' := by
  go_enter Tryd.func84, Tryd.ntmps84
  go_wp2_with (go_at_call 107; refine (slices_compare ca cb ha hb).mono ?_; rintro e w2 ⟨rfl, rfl⟩)
  go_ret
  exact ⟨rfl, rfl⟩
theorem Sl16.drewN {w : World} {a : Option Addr} {us : List Nat} (h : Sl16 w a us) (k : Nat) : Sl16 (w.drewN k) a us := ⟨h.at_, h.len⟩
theorem cmp16_zero {a b : List Nat} : cmp16 a b = 0 ↔ a = b := by
  induction a generalizing b with
  | nil => cases b <;> simp [cmp16]
  | cons x xs ih =>
    cases b with
    | nil => simp [cmp16]
    | cons y ys =>
      simp only [cmp16, List.cons.injEq]
      by_cases h : x = y
      · simp [h, ih]
      · simp only [h, if_false, false_and, iff_false]
        split <;> omega
end Go.Proofs.YtelhnaphkbpakaaDoor
namespace Go.Proofs.YtelhnaphkbpakaaDoor
open Go Go.RowKit
set_option linter.unusedVariables false
theorem grownBy_self (w : World) (row : Option Nat) : w.grownBy w row := ⟨rfl, rfl, rfl, Nat.le_refl _, fun _ _ _ => rfl⟩
section
variable {P : Program} (w : World)
theorem run_append_any (t ty : TypeId) (base : Nat) (e : TypeId) (i : TypeInfo) (z : Value) (size bytes : Nat) (ht : P.underlying t = some (.slice e)) (hi : P.info? e = some i) (hz : i.zero = some z)
    (hsize : i.size = size) (hby : i.bytes = bytes) (hzs : z.cells.size = size) (hsz : 0 < size)
    (v : Value) (n : Nat) (xs : List Value) (hown : w.ownsRow base e size v n xs)
    (xa : Option Addr) (m c : Nat) (news : List Value) (hl : news.length = m * size) (hsrc : m = 0 ∨ ∃ ad, xa = some ad ∧ ∀ j u, news[j]? = some u → w.cell? (ad.add j) = some u) (h1 : ∀ u ∈ news, u.oneCell' = true)
    (h63 : n + m ≤ maxLen) (hbytes : (n + m) * bytes ≤ 140737488355328) (hbase : base ≤ w.heap.size) :
    ∃ v' w', (Builtin.append_ #[t, t] ty #[v, .slice xa m c]).run P w = .ok v' w' ∧ w'.ownsRow base e size v' (n + m) (xs ++ news) ∧ w.grownBy w' v.ownBlock ∧ (∃ a' c', v' = .slice a' (n + m) c') := by
  rcases Nat.eq_zero_or_pos m with rfl | hm
  · obtain rfl : news = [] := by cases news with | nil => rfl | cons x l => simp at hl
    have hv : ∃ a' c', v = .slice a' n c' ∧ n ≤ c' := by
      rcases hown.2 with ⟨rfl, hn⟩ | ⟨g, cap, cur, rfl, _, _, _, h4, _⟩
      · exact ⟨none, 0, by rw [hn], by omega⟩
      · exact ⟨_, cap, rfl, by omega⟩
    obtain ⟨a', c', rfl, hle⟩ := hv
    have hs : Src P i.size t (.slice xa 0 c) 0 [] w := by
      cases xa with
      | none => exact Src.ofNil w ht c
      | some ad => exact Src.ofSlice w ht ad 0 c [] (by simp) (by simp) (by simp)
    exact ⟨_, w, run_append_nothing w t t ty e i ht hi a' n c' hle _ hs, by simpa using hown, grownBy_self w _, a', c', rfl⟩
  · rcases hsrc with h0 | ⟨ad, rfl, hnews⟩
    · omega
    · obtain ⟨g, cap, w', hr, h2, h3, _⟩ := run_append_lies (P := P) w t ty base e i z size bytes ht hi hz hsize hby hzs hsz v n xs hown ad m c news hl hnews h1 hm h63 hbytes hbase _ rfl
      exact ⟨_, w', hr, h2, h3, _, cap, rfl⟩
theorem wpList_append_any {ops : Array Oper} {rest : List Oper} {o : Oper} {a : Act} {Q : Exit → Act → World → Prop} (hgd : o.guard = none) (s x : Operand) (t : TypeId)
    (ho : o.op = .call { callee := .builtin .append, args := #[s, x], argTypes := #[t, t] })
    (base : Nat) (e : TypeId) (i : TypeInfo) (z : Value) (size bytes : Nat) (ht : P.underlying t = some (.slice e)) (hi : P.info? e = some i) (hz : i.zero = some z)
    (hsize : i.size = size) (hby : i.bytes = bytes) (hzs : z.cells.size = size) (hsz : 0 < size)
    (v : Value) (n : Nat) (xs : List Value) (hs : a.eval s = v) (hown : w.ownsRow base e size v n xs)
    (xa : Option Addr) (m c : Nat) (news : List Value) (hx : a.eval x = .slice xa m c) (hl : news.length = m * size) (hsrc : m = 0 ∨ ∃ ad, xa = some ad ∧ ∀ j u, news[j]? = some u → w.cell? (ad.add j) = some u) (h1 : ∀ u ∈ news, u.oneCell' = true)
    (h63 : n + m ≤ maxLen) (hbytes : (n + m) * bytes ≤ 140737488355328) (hbase : base ≤ w.heap.size)
    (h : ∀ a' c' w', w'.ownsRow base e size (.slice a' (n + m) c') (n + m) (xs ++ news) → w.grownBy w' v.ownBlock → wpList P ops Q rest (a.put o.dst (.slice a' (n + m) c')) w') : wpList P ops Q (o :: rest) a w := by
  obtain ⟨v', w', hr, h2, h3, a', c', rfl⟩ := run_append_any (P := P) w t o.type base e i z size bytes ht hi hz hsize hby hzs hsz v n xs hown xa m c news hl hsrc h1 h63 hbytes hbase
  exact Lib.wpList_append_run w hgd s x t t ho _ _ hs hx _ w' hr (h a' c' w' h2 h3)
end
end Go.Proofs.YtelhnaphkbpakaaDoor
namespace Go.Proofs.YtelhnaphkbpakaaDoor
open Go.RowKit
set_option linter.unusedVariables false
set_option maxRecDepth 100000
def enc16 (us : List Nat) : List Value := us.map fun (u : Nat) => Value.int .u16 (u : Int)
theorem enc16_len (us : List Nat) : (enc16 us).length = us.length := by simp [enc16]
theorem enc16_at {us : List Nat} {i u : Nat} (h : us[i]? = some u) : (enc16 us)[i]? = some (.int .u16 (u : Int)) := by simp [enc16, h]
theorem info79 : (Tryd.prog.info? 128).map (fun i => (i.zero, i.size, i.bytes)) = some (some (.int .u16 0), 1, 2) := by kernel_rfl
theorem addr_add_off (b off j : Nat) : (⟨b, off, none⟩ : Addr).add j = ⟨b, off + j, none⟩ := by unfold Addr.add; split <;> simp_all
theorem Sl16.src {w : World} {a : Option Addr} {us : List Nat} (h : Sl16 w a us) : us.length = 0 ∨ ∃ ad, a = some ad ∧ ∀ j u, (enc16 us)[j]? = some u → w.cell? (ad.add j) = some u := by
  rcases Nat.eq_zero_or_pos us.length with h0 | h0
  · exact .inl h0
  · right
    obtain ⟨u, hu⟩ : ∃ u, us[0]? = some u := ⟨_, List.getElem?_eq_getElem h0⟩
    obtain ⟨_, b, off, rfl, _, _⟩ := h.at_ 0 u hu
    refine ⟨_, rfl, fun j v hj => ?_⟩
    obtain ⟨x, hx, rfl⟩ : ∃ x, us[j]? = some x ∧ v = .int .u16 (x : Int) := by
      simp [enc16, List.getElem?_map, Option.map_eq_some_iff] at hj
      obtain ⟨x, hx, rfl⟩ := hj
      exact ⟨x, hx, rfl⟩
    obtain ⟨_, b', off', e, _, hc⟩ := h.at_ j x hx
    cases e
    rw [addr_add_off]
    exact hc
theorem enc16_one {us : List Nat} : ∀ u ∈ enc16 us, u.oneCell' = true := by
  intro u hu
  obtain ⟨x, _, rfl⟩ := List.mem_map.1 hu
  rfl
theorem sl16_of_row {w : World} {base n : Nat} {a : Option Addr} {cap : Nat} {us : List Nat} {more : List Value} {k : Nat} (h : w.ownsRow base 128 1 (.slice a k cap) k (enc16 us ++ more)) (hk : us.length ≤ k) (hb : ∀ u ∈ us, u ≤ 65535) (hl : us.length ≤ 9223372036854775807) : Sl16 w a us :=
  ⟨fun i u hu => by
    have hi : i < us.length := (List.getElem?_eq_some_iff.1 hu).1
    obtain ⟨g, cap', hv, _, hg⟩ := h.form (by omega)
    cases hv
    refine ⟨hb u (List.mem_of_getElem? hu), g, 0, rfl, hg, ?_⟩
    rw [Nat.zero_add]
    exact (h.cellAt i (by omega)).trans (by rw [List.getElem?_append_left (by rw [enc16_len]; exact hi)]; exact enc16_at hu), hl⟩
theorem Sl16.bnd {w : World} {a : Option Addr} {us : List Nat} (h : Sl16 w a us) : ∀ u ∈ us, u ≤ 65535 := by
  intro u hu
  obtain ⟨i, hi, rfl⟩ := List.mem_iff_getElem.1 hu
  exact (h.at_ i _ (List.getElem?_eq_getElem hi)).1
end Go.Proofs.YtelhnaphkbpakaaDoor
namespace Go.Proofs.YtelhnaphkbpakaaDoor
open Go.RowKit
set_option linter.unusedVariables false
section
variable {w : World} {base : Nat} {e : TypeId} {size : Nat} {v : Value} {n : Nat} {xs : List Value}
theorem rwNe (h : w.ownsRow base e size v n xs) {b : Nat} {c : Array Value} {e' : TypeId} {fz : Nat × Nat} (hb : w.heap[b]? = some (.cells c e' fz)) (he : e ≠ e') : some b ≠ v.ownBlock := by
  rcases h.2 with ⟨rfl, _⟩ | ⟨g, cap, cur, rfl, _, hg, _⟩
  · simp [Value.ownBlock]
  · simp only [Value.ownBlock, ne_eq, Option.some.injEq]
    exact fun hh => ne_blk hg hb he hh.symm
theorem rwSet (h : w.ownsRow base e size v n xs) (a : Addr) (hb : v.ownBlock ≠ some a.block) (u : Value) : (w.setCell a u).ownsRow base e size v n xs := by
  refine ⟨h.1, ?_⟩
  rcases h.2 with h' | ⟨g, cap, cur, rfl, hbg, hg, rest⟩
  · exact .inl h'
  · exact .inr ⟨g, cap, cur, rfl, hbg, set_other hg (by intro e1; exact hb (by rw [e1]; rfl)) u, rest⟩
theorem rwOther (h : w.ownsRow base e size v n xs) {b : Nat} {c : Array Value} {e' : TypeId} {fz : Nat × Nat} (hb : w.heap[b]? = some (.cells c e' fz)) (he : e ≠ e') (o : Nat) (u : Value) :
    (w.setCell ⟨b, o, none⟩ u).ownsRow base e size v n xs := rwSet h _ (fun hh => rwNe h hb he hh.symm) u
theorem rwBlk {g cap : Nat} (h : w.ownsRow base e size (.slice (some ⟨g, 0, none⟩) n cap) n xs) : ∃ cur, w.heap[g]? = some (.cells cur e (0, 0)) ∧ base ≤ g := by
  rcases h.2 with ⟨h', _⟩ | ⟨g', cap', cur, h', hb, hg, _⟩
  · cases h'
  · cases h'; exact ⟨cur, hg, hb⟩
end
end Go.Proofs.YtelhnaphkbpakaaDoor
namespace Go.Proofs.YtelhnaphkbpakaaDoor
open Go.RowKit Go.Shelf
set_option linter.unusedVariables false
set_option maxRecDepth 100000
theorem clip16 (a : Option Addr) (n cap : Nat) (hn : n ≤ cap) (hm : cap ≤ 9223372036854775807) (w : World) :
    Calls Tryd.prog 111 #[.slice a n cap] w fun e w' => e = .returned (.slice a n n) ∧ w = w' := by
  have p1 : (n : Int) ≤ (cap : Int) := by omega
  go_enter Tryd.func111, Tryd.ntmps111
  go_wp2
  go_ret
  exact ⟨rfl, rfl⟩
structure Clip16 (B : Nat) (w : World) (a : Option Addr) (us : List Nat) : Prop where
  row : ∃ cap, w.ownsRow B 128 1 (.slice a us.length cap) us.length (enc16 us)
  bnd : ∀ u ∈ us, u ≤ 65535
  len : us.length ≤ 9223372036854775807
theorem Clip16.sl {B : Nat} {w : World} {a : Option Addr} {us : List Nat} (h : Clip16 B w a us) : Sl16 w a us := by
  obtain ⟨cap, hr⟩ := h.row
  exact sl16_of_row (more := []) (n := 0) (by simpa using hr) (Nat.le_refl _) h.bnd h.len
end Go.Proofs.YtelhnaphkbpakaaDoor
namespace Go.Proofs.YtelhnaphkbpakaaDoor
open Go.RowKit
set_option linter.unusedVariables false
theorem blkGrow {w w' : World} {b : Nat} {c : Array Value} {e : TypeId} {fz : Nat × Nat} (h : w.heap[b]? = some (.cells c e fz)) {row : Option Nat} (hg : w.grownBy w' row) (hr : ∀ r, row = some r → ∃ o : Obj, w.heap[r]? = some o ∧ o.isCells = false) : w'.heap[b]? = some (.cells c e fz) := by
  refine (hg.block b (lt_of_some h) ?_).trans h
  intro e1
  obtain ⟨o, ho, hc⟩ := hr b e1.symm
  rw [h] at ho
  cases ho
  cases hc
section
variable {tS tE : TypeId} {B bx : Nat} {xs news : List Value} {w0 w w' w3 : World}
end
end Go.Proofs.YtelhnaphkbpakaaDoor
