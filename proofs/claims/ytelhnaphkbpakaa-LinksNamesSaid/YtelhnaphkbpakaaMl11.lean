/- Units' code points, as data; Points: its iterator tells them one by one. -/
import Derived.Sort.CutIn
import Derived.Sort.QuietIn
import Derived.Test.YtelhnaphkbpakaaMl10
namespace Go.Proofs.Ytelhnaphkbpakaa
open Go.RowKit Go.Shelf
attribute [local go_sem] Oper.semAt_some
set_option linter.unusedVariables false
set_option maxRecDepth 100000

structure Un where
  p : Nat
  n : Nat
  c : Nat
  lone : Bool

def Pair (us : List Nat) (i : Nat) : Prop := 55296 ≤ us.getD i 0 ∧ us.getD i 0 < 56320 ∧ i + 1 < us.length ∧ 56320 ≤ us.getD (i + 1) 0 ∧ us.getD (i + 1) 0 < 57344
instance (us : List Nat) (i : Nat) : Decidable (Pair us i) := by unfold Pair; infer_instance
def unAt (us : List Nat) (i : Nat) : Un :=
  if Pair us i then ⟨i, 2, 65536 + (us.getD i 0 - 55296) * 1024 + (us.getD (i + 1) 0 - 56320), false⟩ else ⟨i, 1, us.getD i 0, decide (55296 ≤ us.getD i 0 ∧ us.getD i 0 < 57344)⟩
theorem unAt_n (us : List Nat) (i : Nat) : 1 ≤ (unAt us i).n ∧ (unAt us i).n ≤ 2 := by unfold unAt; split <;> simp
theorem unAt_size (us : List Nat) (i : Nat) (h : i < us.length) : i + (unAt us i).n ≤ us.length := by
  unfold unAt
  split
  · rename_i h1; have := h1.2.2.1; simp only; omega
  · simp only; omega
def unsFrom (us : List Nat) (i : Nat) : List Un := if h : i < us.length then unAt us i :: unsFrom us (i + (unAt us i).n) else []
termination_by us.length - i
decreasing_by have := (unAt_n us i).1; omega
def uns (us : List Nat) : List Un := unsFrom us 0
theorem unsFrom_step (us : List Nat) (i : Nat) (h : i < us.length) : unsFrom us i = unAt us i :: unsFrom us (i + (unAt us i).n) := by rw [unsFrom, dif_pos h]
theorem unsFrom_end (us : List Nat) (i : Nat) (h : ¬ i < us.length) : unsFrom us i = [] := by rw [unsFrom, dif_neg h]
theorem unsFrom_mem (us : List Nat) (p : Nat) : ∀ x ∈ unsFrom us p, ∃ q, q < us.length ∧ x = unAt us q := by
  intro x hx
  induction p using unsFrom.induct us with
  | case1 p h ih =>
    rw [unsFrom_step us p h] at hx
    rcases List.mem_cons.1 hx with rfl | hx
    · exact ⟨p, h, rfl⟩
    · exact ih hx
  | case2 p h => rw [unsFrom_end us p h] at hx; cases hx
theorem unsFrom_len (us : List Nat) (p : Nat) : (unsFrom us p).length ≤ us.length - p := by
  induction p using unsFrom.induct us with
  | case1 p h ih =>
    rw [unsFrom_step us p h, List.length_cons]
    have := (unAt_n us p).1
    omega
  | case2 p h => rw [unsFrom_end us p h]; simp
theorem uns_len (us : List Nat) : (uns us).length ≤ us.length := by have := unsFrom_len us 0; simpa [uns] using this

def encU (x : Un) : Array Value := #[.int .i64 (x.p : Int), .int .i32 (x.c : Int)]

theorem grownBy_drewN (w : World) (k : Nat) : w.grownBy (w.drewN k) none := ⟨rfl, rfl, rfl, Nat.le_refl _, fun _ _ _ => rfl⟩

theorem points_calls (a : Option Addr) (n cap : Nat) (w : World) :
    Calls Try.prog 97 #[.slice a n cap] w fun e w' => e = .returned (.func (.func 108) #[] #[.pointer (some ⟨w.heap.size, 0, none⟩)]) ∧ w' = w.alloc (.cells #[.slice a n cap] 24) := by
  go_enter Try.func97, Try.ntmps97
  go_wp2
  go_ret
  exact ⟨rfl, rfl⟩

theorem getD_of {us : List Nat} {i u : Nat} (h : us[i]? = some u) : us.getD i 0 = u := by simp [h]

set_option maxHeartbeats 4000000 in
theorem points1_in {α : Type} (f : α → Un) (L : List α) (n : Nat) (hn : 1 ≤ n) (l Bn : Nat) {w0 : World} {a : Option Addr} {us : List Nat} {cap : Nat} (hA : Sl16 w0 a us) (hL : L.map f = uns us) (J Jx : List α → World → Prop) (W : World) (hJ : AbidesFrom W.heap.size J)
    (hY : ∀ pre x W1, J pre W1 → pre.length < L.length → YieldAt Fence.wide (n - 1) Try.prog l (encU (f x)) W1 fun e W' =>
      (e = .returned (.bool true) ∧ J (pre ++ [x]) W' ∧ KpX w0.heap.size Bn W1 W') ∨ (e = .returned (.bool false) ∧ Jx (pre ++ [x]) W'))
    (hBn : W.heap[Bn]? = some (.cells #[.slice a us.length cap] 24 (0, 0))) (hB : Below w0.heap.size w0 W) (h0 : J [] W) :
    CallsIn Fence.wide n Try.prog 108 #[.func (.yield l) #[] #[], .pointer (some ⟨Bn, 0, none⟩)] W fun e W' => (∃ v, e = .returned v) ∧
      ((∃ ys, ys = L ∧ J ys W') ∨ (∃ pre, pre <+: L ∧ Jx pre W')) := by
  have hl := hA.len
  have HA := Lib.hid hA
  obtain ⟨N, hN⟩ : ∃ N, N = us.length := ⟨_, rfl⟩
  rw [← hN] at hBn hl
  have HN := Lib.hid hN
  have HY := Lib.hid hY
  have HJ := Lib.hid hJ
  have hro : Fence.wide.round = none := rfl
  have HLL := Lib.hid hL
  clear hN hY hJ hA hL
  refine callsIn_of_wp Try.func108 rfl trivial ?_ rfl
  simp only [Try.ntmps108, List.size_toArray, List.length_cons, List.length_nil, Nat.reduceAdd, Nat.reduceSub, Array.replicate_succ, Array.replicate_zero, List.push_toArray, List.append_toArray, List.nil_append, List.cons_append]
  gi_wp2
  gi_loopw [3] (fun v wr => ∃ k : Nat, ∃ pre rest, k ≤ N ∧ v = .int .i64 (k : Nat) ∧ (L = pre ++ rest ∧ rest.map f = unsFrom us k) ∧ J pre wr ∧ Below w0.heap.size w0 wr ∧ wr.heap[Bn]? = some (.cells #[.slice a N cap] 24 (0, 0))) (fun v _ => N - (intOf v).toNat)
  case atStart => exact ⟨0, [], L, Nat.zero_le _, rfl, ⟨rfl, HLL.out⟩, h0, hB, hBn⟩
  case round =>
    obtain ⟨k, pre, rest, hk, rfl, hpre, hJs, hBr, hBx⟩ := hrel
    have hbox := cell_blk hBx 0 rfl
    simp at hbox
    by_cases hlt : k < N
    · obtain ⟨u, hu⟩ : ∃ u, us[k]? = some u := ⟨_, List.getElem?_eq_getElem (by rw [← HN.out]; exact hlt)⟩
      obtain ⟨hu1, b1, o1, rfl, hb1, c1⟩ := (HA.out.below hBr).at_ k u hu
      have p1 : (k : Int) < (N : Int) := by omega
      have p2 : (0 : Int) ≤ (k : Int) := by omega
      have q1 : IntKind.i64.wrap ((k : Int) + 1) = (k : Int) + 1 := IntWalk.i64_in _ (by omega)
      have HX := Lib.hid (And.intro hpre (And.intro hJs (And.intro hBr hBx)))
      have HU := Lib.hid hu
      clear hpre hJs hBr hBx hu
      have hstep := unsFrom_step us k (by rw [← HN.out]; exact hlt)
      obtain ⟨y, rest', hrest, hy1, hy2⟩ : ∃ y rest', rest = y :: rest' ∧ f y = unAt us k ∧ rest'.map f = unsFrom us (k + (unAt us k).n) := by
        have h := HX.out.1.2
        rw [hstep] at h
        cases rest with
        | nil => cases h
        | cons y rest' => simp only [List.map_cons, List.cons.injEq] at h; exact ⟨y, rest', rfl, h.1, h.2⟩
      obtain ⟨x, hx⟩ : ∃ x, x = unAt us k := ⟨_, rfl⟩
      rw [← hx] at hy1 hy2
      have HPF : Hid (pre ++ [y] <+: L) := Lib.hid ⟨rest', by rw [HX.out.1.1, hrest]; simp⟩
      gi_wp2_with fail
      gi_quiet (fail)
      have hJn := HJ.out pre wr _ none HX.out.2.1 (grownBy_drewN wr nq) (fun _ h => by cases h)
      have HN2 : Hid (pre.length < L.length ∧ J pre (wr.drewN nq) ∧ Below w0.heap.size w0 (wr.drewN nq) ∧ (wr.drewN nq).heap[Bn]? = some (.cells #[.slice (some ⟨b1, o1, none⟩) N cap] 24 (0, 0)) ∧ (∀ m, x.n = m → L = (pre ++ [y]) ++ rest' ∧ rest'.map f = unsFrom us (k + m))) :=
        Lib.hid ⟨by rw [HX.out.1.1, hrest]; simp, hJn, HX.out.2.2.1.trans (by repeat (first | exact Below.refl _ _ | assumption | refine Below.drew ?_ | refine below_drewN ?_ _ | refine Below.alloc ?_ (by simp <;> omega) _ | refine Below.setCell ?_ (by simp <;> omega) _ | (apply bl_trans; assumption; (simp <;> omega)))), HX.out.2.2.2, fun m hm => ⟨by rw [HX.out.1.1, hrest]; simp, by rw [hy2, hm]⟩⟩
      have HY1 := Lib.hid hy1
      clear hJn hstep hrest hy1 hy2
      have e1 := getD_of HU.out
      by_cases hp : Pair us k
      · obtain ⟨h1, h2, h3, h4, h5⟩ := hp
        have hkl : k + 1 < N := by rw [HN.out]; exact h3
        obtain ⟨v, hv⟩ : ∃ v, us[k + 1]? = some v := ⟨_, List.getElem?_eq_getElem h3⟩
        have e2 := getD_of hv
        obtain ⟨hv1, b1', o1', e3, _, c2⟩ := (HA.out.below HX.out.2.2.1).at_ (k + 1) v hv
        cases e3
        have c2' : (wr.drewN nq).cell? ⟨b1, o1 + (k + 1), none⟩ = some (.int .u16 (v : Int)) := c2
        have HXE : Hid (encU x = #[.int .i64 (k : Int), .int .i32 (65536 + ((u : Int) - 55296) * 1024 + (v : Int) - 56320)]) := by
          refine Lib.hid ?_
          rw [hx, unAt, if_pos ⟨h1, h2, h3, h4, h5⟩, encU, e1, e2]
          rw [e1] at h1
          rw [e2] at h4
          have e4 : ((65536 + (u - 55296) * 1024 + (v - 56320) : Nat) : Int) = 65536 + ((u : Int) - 55296) * 1024 + (v : Int) - 56320 := by omega
          simp only [e4]
        have HXN : Hid (x.n = 2) := Lib.hid (by rw [hx, unAt, if_pos ⟨h1, h2, h3, h4, h5⟩])
        rw [e1] at h1 h2
        rw [e2] at h4 h5
        have r1 : (55296 : Int) ≤ (u : Int) := by omega
        have r2 : (u : Int) ≤ 56319 := by omega
        have r3 : (k : Int) + 1 < (N : Int) := by omega
        have r4 : (56320 : Int) ≤ (v : Int) := by omega
        have r5 : (v : Int) ≤ 57343 := by omega
        clear hx e1 e2 hv c2 h3
        obtain ⟨fn, tmps, assign, body, hy, hR⟩ := HY.out pre y _ HN2.out.2.1 HN2.out.1
        rw [HY1.out, HXE.out] at hy
        gi_wp2
        refine hR.mono ?_
        rintro e W3 (⟨rfl, hJ3, hk3⟩ | ⟨rfl, hJx3⟩)
        · gi_wp2
          go_roundw
          case rel => exact ⟨k + 2, pre ++ [y], rest', by omega, by go_num, HN2.out.2.2.2.2 2 HXN.out, hJ3, HN2.out.2.2.1.trans hk3.below, hk3.cap _ HN2.out.2.2.2.1⟩
          case measure => simp [intOf]; omega
        · gi_wp2
          refine bodyPost_ret (results_none rfl _ _ _) rfl ?_
          exact ⟨⟨_, rfl⟩, .inr ⟨_, HPF.out, hJx3⟩⟩
      · have HXE : Hid (encU x = #[.int .i64 (k : Int), .int .i32 (u : Int)]) := Lib.hid (by rw [hx, unAt, if_neg hp, encU, e1])
        have HXN : Hid (x.n = 1) := Lib.hid (by rw [hx, unAt, if_neg hp])
        have HNP : Hid (¬ Pair us k) := Lib.hid hp
        clear hx hp
        by_cases h1 : u < 55296
        · have r1 : ¬ (55296 : Int) ≤ (u : Int) := by omega
          clear e1
          obtain ⟨fn, tmps, assign, body, hy, hR⟩ := HY.out pre y _ HN2.out.2.1 HN2.out.1
          rw [HY1.out, HXE.out] at hy
          gi_wp2
          refine hR.mono ?_
          rintro e W3 (⟨rfl, hJ3, hk3⟩ | ⟨rfl, hJx3⟩)
          · gi_wp2
            go_roundw
            case rel => exact ⟨k + 1, pre ++ [y], rest', by omega, by go_num, HN2.out.2.2.2.2 1 HXN.out, hJ3, HN2.out.2.2.1.trans hk3.below, hk3.cap _ HN2.out.2.2.2.1⟩
            case measure => simp [intOf]; omega
          · gi_wp2
            refine bodyPost_ret (results_none rfl _ _ _) rfl ?_
            exact ⟨⟨_, rfl⟩, .inr ⟨_, HPF.out, hJx3⟩⟩
        · by_cases h2 : u ≤ 56319
          · have r1 : (55296 : Int) ≤ (u : Int) := by omega
            have r2 : (u : Int) ≤ 56319 := by omega
            by_cases h3 : k + 1 < N
            · have r3 : (k : Int) + 1 < (N : Int) := by omega
              have h3' : k + 1 < us.length := by rw [← HN.out]; exact h3
              obtain ⟨v, hv⟩ : ∃ v, us[k + 1]? = some v := ⟨_, List.getElem?_eq_getElem h3'⟩
              have e2 := getD_of hv
              obtain ⟨hv1, b1', o1', e3, _, c2⟩ := (HA.out.below HX.out.2.2.1).at_ (k + 1) v hv
              cases e3
              have c2' : (wr.drewN nq).cell? ⟨b1, o1 + (k + 1), none⟩ = some (.int .u16 (v : Int)) := c2
              by_cases h4 : 56320 ≤ v
              · have r4 : (56320 : Int) ≤ (v : Int) := by omega
                have r5 : ¬ (v : Int) ≤ 57343 := fun h5 => HNP.out ⟨by rw [e1]; omega, by rw [e1]; omega, h3', by rw [e2]; omega, by rw [e2]; omega⟩
                clear e1 e2 hv c2 h3'
                obtain ⟨fn, tmps, assign, body, hy, hR⟩ := HY.out pre y _ HN2.out.2.1 HN2.out.1
                rw [HY1.out, HXE.out] at hy
                gi_wp2
                refine hR.mono ?_
                rintro e W3 (⟨rfl, hJ3, hk3⟩ | ⟨rfl, hJx3⟩)
                · gi_wp2
                  go_roundw
                  case rel => exact ⟨k + 1, pre ++ [y], rest', by omega, by go_num, HN2.out.2.2.2.2 1 HXN.out, hJ3, HN2.out.2.2.1.trans hk3.below, hk3.cap _ HN2.out.2.2.2.1⟩
                  case measure => simp [intOf]; omega
                · gi_wp2
                  refine bodyPost_ret (results_none rfl _ _ _) rfl ?_
                  exact ⟨⟨_, rfl⟩, .inr ⟨_, HPF.out, hJx3⟩⟩
              · have r4 : ¬ (56320 : Int) ≤ (v : Int) := by omega
                clear e1 e2 hv c2 h3'
                obtain ⟨fn, tmps, assign, body, hy, hR⟩ := HY.out pre y _ HN2.out.2.1 HN2.out.1
                rw [HY1.out, HXE.out] at hy
                gi_wp2
                refine hR.mono ?_
                rintro e W3 (⟨rfl, hJ3, hk3⟩ | ⟨rfl, hJx3⟩)
                · gi_wp2
                  go_roundw
                  case rel => exact ⟨k + 1, pre ++ [y], rest', by omega, by go_num, HN2.out.2.2.2.2 1 HXN.out, hJ3, HN2.out.2.2.1.trans hk3.below, hk3.cap _ HN2.out.2.2.2.1⟩
                  case measure => simp [intOf]; omega
                · gi_wp2
                  refine bodyPost_ret (results_none rfl _ _ _) rfl ?_
                  exact ⟨⟨_, rfl⟩, .inr ⟨_, HPF.out, hJx3⟩⟩
            · have r3 : ¬ (k : Int) + 1 < (N : Int) := by omega
              clear e1
              obtain ⟨fn, tmps, assign, body, hy, hR⟩ := HY.out pre y _ HN2.out.2.1 HN2.out.1
              rw [HY1.out, HXE.out] at hy
              gi_wp2
              refine hR.mono ?_
              rintro e W3 (⟨rfl, hJ3, hk3⟩ | ⟨rfl, hJx3⟩)
              · gi_wp2
                go_roundw
                case rel => exact ⟨k + 1, pre ++ [y], rest', by omega, by go_num, HN2.out.2.2.2.2 1 HXN.out, hJ3, HN2.out.2.2.1.trans hk3.below, hk3.cap _ HN2.out.2.2.2.1⟩
                case measure => simp [intOf]; omega
              · gi_wp2
                refine bodyPost_ret (results_none rfl _ _ _) rfl ?_
                exact ⟨⟨_, rfl⟩, .inr ⟨_, HPF.out, hJx3⟩⟩
          · have r1 : (55296 : Int) ≤ (u : Int) := by omega
            have r2 : ¬ (u : Int) ≤ 56319 := by omega
            clear e1
            obtain ⟨fn, tmps, assign, body, hy, hR⟩ := HY.out pre y _ HN2.out.2.1 HN2.out.1
            rw [HY1.out, HXE.out] at hy
            gi_wp2
            refine hR.mono ?_
            rintro e W3 (⟨rfl, hJ3, hk3⟩ | ⟨rfl, hJx3⟩)
            · gi_wp2
              go_roundw
              case rel => exact ⟨k + 1, pre ++ [y], rest', by omega, by go_num, HN2.out.2.2.2.2 1 HXN.out, hJ3, HN2.out.2.2.1.trans hk3.below, hk3.cap _ HN2.out.2.2.2.1⟩
              case measure => simp [intOf]; omega
            · gi_wp2
              refine bodyPost_ret (results_none rfl _ _ _) rfl ?_
              exact ⟨⟨_, rfl⟩, .inr ⟨_, HPF.out, hJx3⟩⟩
    · have e : unsFrom us k = [] := unsFrom_end us k (by rw [← HN.out]; exact hlt)
      have hpre' : pre = L := by
        have h := hpre.2
        rw [e] at h
        rw [hpre.1, List.map_eq_nil_iff.1 h]; simp
      have HX := Lib.hid (And.intro hpre' hJs)
      clear hpre hJs e hpre'
      gi_wp2
      go_end0
      exact ⟨⟨_, rfl⟩, .inl ⟨_, HX.out.1, HX.out.2⟩⟩
end Go.Proofs.Ytelhnaphkbpakaa

