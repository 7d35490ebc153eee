/- Part 4 of the proof of RoP: lemmas. -/
import Derived.RangeFuncNested
import Derived.RangeFuncBound
import Derived.RangeFuncCalls
import Derived.RangeFuncLeaves
import Derived.Shelf.Abstract
import Derived.Shelf.RegionOpen
import Derived.OwnWalkIn
import Derived.TacticsInMore
import Derived.LoopNIn
import Derived.LoopIn
import Derived.Lib.OthersKept
import Derived.Test.YtelhnaphkbpakaaDoorMr3
namespace Go.Proofs.YtelhnaphkbpakaaDoor
open Go.RowKit Go.Shelf
attribute [local go_sem] Oper.semAt_some
set_option linter.unusedVariables false
set_option maxRecDepth 100000
theorem byteAt_extract (s : ByteArray) (p i : Nat) (h : p ≤ s.size) : byteAt (s.extract p s.size) i = byteAt s (p + i) := by
  have hl : (s.extract p s.size).size = s.size - p := by simp
  unfold byteAt
  by_cases hi : i < s.size - p
  · have e1 : (s.extract p s.size).get! i = (s.extract p s.size)[i]'(by omega) := by simp [ByteArray.get!, ByteArray.getElem_eq_getElem_data, hi]
    have e2 : s.get! (p + i) = s[p + i]'(by omega) := by simp [ByteArray.get!, ByteArray.getElem_eq_getElem_data, show p + i < s.size by omega]
    rw [e1, e2]
    simp [ByteArray.getElem_extract]
  · have e1 : (s.extract p s.size).get! i = default := by
      simp only [ByteArray.get!]
      exact getElem!_neg _ _ (by simp; omega)
    have e2 : s.get! (p + i) = default := by
      simp only [ByteArray.get!]
      exact getElem!_neg _ _ (by simp; omega)
    rw [e1, e2]
theorem pieceLen_extract (s : ByteArray) (p many lo hi : Nat) (h : p ≤ s.size) : pieceLen (s.extract p s.size) 0 many lo hi = pieceLen s p many lo hi := by
  have hw (i lo hi : Nat) : within (s.extract p s.size) (0 + i) lo hi = within s (p + i) lo hi := by
    simp only [within, byteAt_extract s p _ h, Nat.zero_add]
    have : (s.extract p s.size).size = s.size - p := by simp
    rw [this]
    congr 2
    simp; omega
  unfold pieceLen
  simp only [hw]
theorem iterAt_grown (w : World) (k : Nat) (s : ByteArray) (pos : Nat) : w.grownBy (w.iterAt k s pos) (some k) :=
  ⟨rfl, rfl, rfl, by rw [Lib.iterAt_size]; exact Nat.le_refl _, fun i hi hne => Lib.iterAt_other w k i s pos (fun e => hne (by rw [e]))⟩
theorem rune_len' (c : Nat) (h : c < 55296 ∨ (57343 < c ∧ c ≤ 1114111)) (w : World) : Calls Tryd.prog 122 #[.int .i32 (c : Int)] w fun e w' => e = .returned (.int .i64 (runeLen c : Int)) ∧ w = w' := rune_len c h w
structure ReadI (s : ByteArray) (k q p : Nat) (pre : List Pc) (w0 W : World) : Prop where
  it : W.heap[k]? = some (.stringIter s q)
  list : pcs s = pre ++ pcsFrom s p
  le : q ≤ p
  size : p ≤ s.size
  cont : ∀ j, q ≤ j → j < p → 128 ≤ byteAt s j ∧ byteAt s j ≤ 191
  heap : w0.heap.size ≤ W.heap.size
theorem ReadI.skip {s : ByteArray} {k q p : Nat} {pre : List Pc} {w0 W : World} (h : ReadI s k q p pre w0 W) (hlt : q < p) : ReadI s k (q + 1) p pre w0 (W.iterAt k s (q + 1)) :=
  ⟨Lib.iterAt_heap W k s q (q + 1) h.it, h.list, hlt, h.size, fun j h1 h2 => h.cont j (by omega) h2, by rw [Lib.iterAt_size]; exact h.heap⟩
theorem ReadI.next {s : ByteArray} {k p nn c wd : Nat} {ok : Bool} {pre : List Pc} {w0 W W' : World} (h : ReadI s k p p pre w0 W) (hp : p < s.size) (hx : pcAt s p = ⟨p, nn, ok, c⟩) (hw : wd = if ok then nn else 1) (hk : KeepsWalks (W.iterAt k s (p + wd)) W') : ReadI s k (p + wd) (p + nn) (pre ++ [⟨p, nn, ok, c⟩]) w0 W' := by
  have h1 := pcAt_n_bnd s p
  have h2 := pcAt_size s p hp
  have h3 := pcAt_bad s p
  rw [hx] at h1 h2 h3
  simp only at h1 h2 h3
  refine ⟨hk.same _ _ (Lib.iterAt_heap W k s p (p + wd) h.it) rfl, ?_, ?_, h2, ?_, ?_⟩
  · rw [h.list, pcsFrom_step s p hp, hx]; simp
  · cases ok <;> simp_all
  · intro j hj1 hj2
    cases ok with
    | true => simp at hw; omega
    | false => simp at hw; exact (h3 rfl).2.2.2 j (by omega) hj2
  · have := hk.size
    rw [Lib.iterAt_size] at this
    exact Nat.le_trans h.heap this
theorem ReadI.fin {s : ByteArray} {k q p : Nat} {pre : List Pc} {w0 W : World} (h : ReadI s k q p pre w0 W) (hq : ¬ q < s.size) : pre = pcs s := by
  have h1 := h.le
  have h2 := h.size
  rw [h.list, pcsFrom_end s p (by omega)]; simp
theorem ReadI.meas {s : ByteArray} {k q p q' p' : Nat} {pre pre' : List Pc} {w0 W w0' W' : World} (h : ReadI s k q p pre w0 W) (h' : ReadI s k q' p' pre' w0' W') (hlt : q < q') (hq : q < s.size) : s.size - W'.iterPos k < s.size - W.iterPos k := by
  have e1 : W.iterPos k = q := by unfold World.iterPos; rw [h.it]
  have e2 : W'.iterPos k = q' := by unfold World.iterPos; rw [h'.it]
  rw [e1, e2]; omega
theorem wd_pos {wd nn : Nat} {ok : Bool} (hw : wd = if ok then nn else 1) (h : 1 ≤ nn) : 1 ≤ wd := by cases ok <;> simp at hw <;> omega
theorem pc_ways (s : ByteArray) (p : Nat) (hp : p < s.size) : ∃ nn c wd dc, ∃ ok : Bool, pcAt s p = ⟨p, nn, ok, c⟩ ∧ Utf8.decode s p = (dc, wd) ∧ wd = (if ok then nn else 1) ∧ 1 ≤ nn ∧ nn ≤ 4 ∧ p + nn ≤ s.size ∧
    ((ok = true ∧ dc = c ∧ (c < 55296 ∨ (57343 < c ∧ c ≤ 1114111)) ∧ nn = runeLen c ∧ c ≠ 65533) ∨
     (ok = true ∧ dc = 65533 ∧ c = 65533 ∧ nn = 3 ∧ byteAt s p = 239 ∧ p + 2 < s.size ∧ byteAt s (p + 1) = 191 ∧ byteAt s (p + 2) = 189) ∨
     (ok = false ∧ dc = 65533 ∧ c = 65533 ∧ nn = pieceLen s p (rowOf (byteAt s p)).1 (rowOf (byteAt s p)).2.1 (rowOf (byteAt s p)).2.2 ∧ (byteAt s p ≠ 239 ∨ (byteAt s p = 239 ∧ (s.size ≤ p + 2 ∨ (p + 2 < s.size ∧ (byteAt s (p + 1) ≠ 191 ∨ (byteAt s (p + 1) = 191 ∧ byteAt s (p + 2) ≠ 189)))))))) := by
  have hd := decode_pc s p hp
  have h0 := pcAt_p s p
  have hn := pcAt_n s p
  have h1 := pcAt_n_bnd s p
  have h2 := pcAt_size s p hp
  have h3 := pcAt_bad s p
  have h4 := pcAt_good s p
  rcases hx : pcAt s p with ⟨p', nn, ok, c⟩
  rw [hx] at hd h0 hn h1 h2 h3 h4
  simp only at hd h0 hn h1 h2 h3 h4
  subst h0
  cases ok with
  | true =>
    obtain ⟨g1, g2, g3⟩ := h4 rfl
    refine ⟨nn, c, nn, c, true, rfl, by rw [hd]; rfl, rfl, h1.1, h1.2, h2, ?_⟩
    by_cases hc : c = 65533
    · right; left
      obtain ⟨e1, e2, e3, e4⟩ := g3 hc
      exact ⟨rfl, hc, hc, by rw [g2, hc]; rfl, e1, e2, e3, e4⟩
    · left
      exact ⟨rfl, rfl, g1, by rw [g2]; rfl, hc⟩
  | false =>
    obtain ⟨g1, g2, g3, g4⟩ := h3 rfl
    refine ⟨nn, c, 1, 65533, false, rfl, by rw [hd]; rfl, rfl, h1.1, h1.2, h2, ?_⟩
    right; right
    refine ⟨rfl, rfl, g1, hn, ?_⟩
    by_cases a1 : byteAt s p' = 239
    · right
      refine ⟨a1, ?_⟩
      by_cases a2 : p' + 2 < s.size
      · right
        refine ⟨a2, ?_⟩
        by_cases a3 : byteAt s (p' + 1) = 191
        · right; exact ⟨a3, fun a4 => g3 ⟨a1, a2, a3, a4⟩⟩
        · left; exact a3
      · left; omega
    · left; exact a1
set_option maxHeartbeats 2000000 in
theorem read_in (n g bx : Nat) (hn : 1 ≤ n) (s : ByteArray) (hs : s.size ≤ 9223372036854775800) (J Jx : List Pc → World → Prop) (w : World) (hgc : ∀ args (w : World), (callFunc g args).run Tryd.prog w = .ok (.enter g args) w) (hJ : AbidesFrom w.heap.size J)
    (hY : ∀ pre x W1, J pre W1 → (∃ rest, pcs s = pre ++ x :: rest) → CallsIn Fence.wide (n - 1) Tryd.prog g #[.int .i64 (x.p : Int), .int .i64 (x.n : Int), .int .i32 (x.c : Int), .bool (!x.ok), .pointer (some ⟨bx, 0, none⟩)] W1 fun e W' =>
      (e = .returned (.bool true) ∧ J (pre ++ [x]) W' ∧ KeepsWalks W1 W') ∨ (e = .returned (.bool false) ∧ Jx (pre ++ [x]) W'))
    (h0 : J [] w) :
    CallsIn Fence.wide n Tryd.prog 118 #[.string s, .func (.func g) #[] #[.pointer (some ⟨bx, 0, none⟩)]] w fun e W' => (∃ v, e = .returned v) ∧ (J (pcs s) W' ∨ ∃ pre, pre <+: pcs s ∧ Jx pre W') := by
  have HY := Lib.hid hY
  have HJ := Lib.hid hJ
  clear hY hJ
  refine callsIn_of_wp Tryd.func118 rfl trivial ?_ rfl
  simp only [Tryd.ntmps118, List.size_toArray, List.length_cons, List.length_nil, Nat.reduceAdd, Nat.reduceSub, Array.replicate_succ, Array.replicate_zero, List.push_toArray, List.append_toArray, List.nil_append, List.cons_append]
  gi_wp2
  gi_loopw [4] (fun v wr => ∃ q p : Nat, ∃ pre, v = .int .i64 (p : Nat) ∧ ReadI s w.heap.size q p pre w wr ∧ J pre wr) (fun _ wr => s.size - wr.iterPos w.heap.size)
  case atStart =>
    refine ⟨0, 0, [], rfl, ⟨Go.heap_alloc_new w _, rfl, Nat.le_refl _, Nat.zero_le _, fun j h1 h2 => absurd h2 (by omega), by show _ ≤ (w.heap.push _).size; simp⟩, ?_⟩
    exact HJ.out [] w _ none h0 (World.grownBy_alloc w _ none) (fun r e => by cases e)
  case round =>
    obtain ⟨q, p, pre, rfl, hI, hJs⟩ := hrel
    have HI := Lib.hid hI
    have HJs := Lib.hid hJs
    have hit := hI.it
    have HIT := Lib.hid hit
    have hle := hI.le
    have hpz := hI.size
    have hkz : w.heap.size < wr.heap.size := (Array.getElem?_eq_some_iff.1 hit).1
    clear hI hJs
    by_cases hq : q < s.size
    · by_cases hlt : q < p
      · have hd : Utf8.decode s q = (65533, 1) := by
          have hc := HI.out.cont q (Nat.le_refl _) hlt
          rw [decode_pc s q hq, pcAt_cont s q hc.1 hc.2]; rfl
        have hnx : ∀ ty, (Instr.next (.pointer (some ⟨w.heap.size, 0, none⟩)) true ty).run Tryd.prog wr = .ok (.tuple #[.bool true, .int .i64 (q : Int), .int .i32 65533]) (wr.iterAt w.heap.size s (q + 1)) := fun ty => by rw [Lib.run_next_any_at wr w.heap.size s q ty hit hq, hd]; rfl
        have p1 : (q : Int) < (p : Int) := by omega
        clear hit hd
        gi_wp2
        go_roundw
        case rel => exact ⟨q + 1, p, pre, rfl, HI.out.skip hlt, HJ.out pre wr _ (some w.heap.size) HJs.out (iterAt_grown _ _ _ _) (fun r e => by cases e; exact ⟨Nat.le_refl _, _, HIT.out, rfl⟩)⟩
        case measure => exact HI.out.meas (HI.out.skip hlt) (by omega) hq
      · obtain rfl : q = p := by omega
        obtain ⟨nn, c, wd, dc, ok, hx, hd, hw, n1, n4, hsz, hcase⟩ := pc_ways s q hq
        have HX := Lib.hid hx
        have HW := Lib.hid hw
        have hwd := wd_pos hw n1
        have hnx : ∀ ty, (Instr.next (.pointer (some ⟨w.heap.size, 0, none⟩)) true ty).run Tryd.prog wr = .ok (.tuple #[.bool true, .int .i64 (q : Int), .int .i32 (dc : Int)]) (wr.iterAt w.heap.size s (q + wd)) := fun ty => by rw [Lib.run_next_any_at wr w.heap.size s q ty hit hq, hd]
        have hrest : ∃ rest, pcs s = pre ++ (⟨q, nn, ok, c⟩ : Pc) :: rest := ⟨pcsFrom s (q + nn), by rw [HI.out.list, pcsFrom_step s q hq, hx]⟩
        have HPF : Hid (pre ++ [(⟨q, nn, ok, c⟩ : Pc)] <+: pcs s) := Lib.hid (by obtain ⟨r, hr⟩ := hrest; exact ⟨r, by rw [hr]; simp⟩)
        have HCALL := Lib.hid (HY.out pre ⟨q, nn, ok, c⟩ (wr.iterAt w.heap.size s (q + wd)) (HJ.out pre wr _ (some w.heap.size) HJs.out (iterAt_grown _ _ _ _) (fun r e => by cases e; exact ⟨Nat.le_refl _, _, HIT.out, rfl⟩)) hrest)
        have p1 : ¬ (q : Int) < (q : Int) := by omega
        have hlenx : (s.extract q s.size).size = s.size - q := ByteArray.size_extract.trans (by omega)
        have hpc := wide_piece (s.extract q s.size) (by rw [hlenx]; omega) (by rw [hlenx]; omega)
        rw [byteAt_extract s q 0 hpz, Nat.add_zero, pieceLen_extract s q _ _ _ hpz] at hpc
        have HPC := Lib.hid hpc
        clear hit hx hw hd hrest hpc hlenx hlt
        rcases hcase with ⟨rfl, rfl, hc1, hc2, hc3⟩ | ⟨rfl, rfl, rfl, rfl, e0, hz, e1, e2⟩ | ⟨rfl, rfl, rfl, hpl, hb⟩
        · have q1 : ((dc : Int) == 65533) = false := by simp; omega
          have HRL := Lib.hid (rune_len' dc hc1)
          rw [← hc2] at HRL
          clear hc1 hc2 hc3
          gi_wp2_with (refine ⟨trivial, ?_⟩; gi_at_call 122; refine (callsIn_wide.2 (HRL.out _)).mono ?_; rintro e w2 ⟨rfl, rfl⟩)
          refine ⟨trivial, ?_⟩
          refine HCALL.out.mono ?_
          rintro e W' (⟨rfl, hJ', hk⟩ | ⟨rfl, hJx'⟩)
          · gi_wp2
            go_roundw
            case rel => exact ⟨q + wd, q + nn, _, by go_num, HI.out.next hq HX.out HW.out hk, hJ'⟩
            case measure => exact HI.out.meas (HI.out.next hq HX.out HW.out hk) (by omega) hq
          · gi_wp2
            refine bodyPost_ret (results_none rfl _ _ _) rfl ?_
            exact ⟨⟨_, rfl⟩, .inr ⟨_, HPF.out, hJx'⟩⟩
        · have q0 := byteAt_get s q hq
          rw [e0] at q0
          have hz1 : q + 1 < s.size := by omega
          have q2 := byteAt_get s (q + 1) hz1
          rw [e1] at q2
          have q3 := byteAt_get s (q + 2) hz
          rw [e2] at q3
          have q4 : ¬ ((s.size : Int) - (q : Int) < 3) := by omega
          have q5 : (s.size : Int) - (q : Int) ≤ 9223372036854775807 := by omega
          have q6 : IntKind.i64.wrap ((q : Int) + 1) = (q : Int) + 1 := IntWalk.i64_in _ (by omega)
          have q7 : IntKind.i64.wrap ((q : Int) + 2) = (q : Int) + 2 := IntWalk.i64_in _ (by omega)
          have q8 : IntKind.i64.wrap ((s.size : Int) - (q : Int)) = (s.size : Int) - (q : Int) := IntWalk.i64_in _ (by omega)
          have HRL := Lib.hid (show ∀ w, Calls Tryd.prog 122 #[.int .i32 65533] w fun e w' => e = .returned (.int .i64 3) ∧ w = w' from rune_len' 65533 (by omega))
          clear e0 e1 e2
          gi_wp2_with (refine ⟨trivial, ?_⟩; gi_at_call 122; refine (callsIn_wide.2 (HRL.out _)).mono ?_; rintro e w2 ⟨rfl, rfl⟩)
          refine ⟨trivial, ?_⟩
          refine HCALL.out.mono ?_
          rintro e W' (⟨rfl, hJ', hk⟩ | ⟨rfl, hJx'⟩)
          · gi_wp2
            go_roundw
            case rel => exact ⟨q + wd, q + 3, _, by go_num, HI.out.next hq HX.out HW.out hk, hJ'⟩
            case measure => exact HI.out.meas (HI.out.next hq HX.out HW.out hk) (by omega) hq
          · gi_wp2
            refine bodyPost_ret (results_none rfl _ _ _) rfl ?_
            exact ⟨⟨_, rfl⟩, .inr ⟨_, HPF.out, hJx'⟩⟩
        · have HRL := Lib.hid (show ∀ w, Calls Tryd.prog 122 #[.int .i32 65533] w fun e w' => e = .returned (.int .i64 3) ∧ w = w' from rune_len' 65533 (by omega))
          have HPL := Lib.hid hpl
          have q0 := byteAt_get s q hq
          obtain ⟨b0, hb0⟩ : ∃ b0, b0 = byteAt s q := ⟨_, rfl⟩
          rw [← hb0] at q0 hb
          have q5 : (s.size : Int) - (q : Int) ≤ 9223372036854775807 := by omega
          have q6 : IntKind.i64.wrap ((q : Int) + 1) = (q : Int) + 1 := IntWalk.i64_in _ (by omega)
          have q7 : IntKind.i64.wrap ((q : Int) + 2) = (q : Int) + 2 := IntWalk.i64_in _ (by omega)
          have q8 : IntKind.i64.wrap ((s.size : Int) - (q : Int)) = (s.size : Int) - (q : Int) := IntWalk.i64_in _ (by omega)
          clear hpl hb0
          rcases hb with h | ⟨rfl, h | ⟨hz, h | ⟨h, h'⟩⟩⟩
          · have q1 : ((b0 : Int) == 239) = false := by simp; omega
            have q1' : ((b0 : Int) != 239) = true := by simp; omega
            clear h
            gi_wp2_with (first | (refine ⟨trivial, ?_⟩; gi_at_call 122; refine (callsIn_wide.2 (HRL.out _)).mono ?_; rintro e w2 ⟨rfl, rfl⟩) | (refine ⟨trivial, ?_⟩; gi_at_call 123; refine (callsIn_wide.2 (HPC.out _)).mono ?_; rw [← HPL.out]; rintro e w2 ⟨rfl, rfl⟩))
            refine ⟨trivial, ?_⟩
            refine HCALL.out.mono ?_
            rintro e W' (⟨rfl, hJ', hk⟩ | ⟨rfl, hJx'⟩)
            · gi_wp2
              go_roundw
              case rel => exact ⟨q + wd, q + nn, _, by go_num, HI.out.next hq HX.out HW.out hk, hJ'⟩
              case measure => exact HI.out.meas (HI.out.next hq HX.out HW.out hk) (by omega) hq
            · gi_wp2
              refine bodyPost_ret (results_none rfl _ _ _) rfl ?_
              exact ⟨⟨_, rfl⟩, .inr ⟨_, HPF.out, hJx'⟩⟩
          · have q4 : ((s.size : Int) - (q : Int) < 3) := by omega
            clear h
            gi_wp2_with (first | (refine ⟨trivial, ?_⟩; gi_at_call 122; refine (callsIn_wide.2 (HRL.out _)).mono ?_; rintro e w2 ⟨rfl, rfl⟩) | (refine ⟨trivial, ?_⟩; gi_at_call 123; refine (callsIn_wide.2 (HPC.out _)).mono ?_; rw [← HPL.out]; rintro e w2 ⟨rfl, rfl⟩))
            refine ⟨trivial, ?_⟩
            refine HCALL.out.mono ?_
            rintro e W' (⟨rfl, hJ', hk⟩ | ⟨rfl, hJx'⟩)
            · gi_wp2
              go_roundw
              case rel => exact ⟨q + wd, q + nn, _, by go_num, HI.out.next hq HX.out HW.out hk, hJ'⟩
              case measure => exact HI.out.meas (HI.out.next hq HX.out HW.out hk) (by omega) hq
            · gi_wp2
              refine bodyPost_ret (results_none rfl _ _ _) rfl ?_
              exact ⟨⟨_, rfl⟩, .inr ⟨_, HPF.out, hJx'⟩⟩
          · have q4 : ¬ ((s.size : Int) - (q : Int) < 3) := by omega
            have hz1 : q + 1 < s.size := by omega
            have q2 := byteAt_get s (q + 1) hz1
            obtain ⟨b1, hb1⟩ : ∃ b1, b1 = byteAt s (q + 1) := ⟨_, rfl⟩
            rw [← hb1] at q2 h
            have q1' : ((b1 : Int) != 191) = true := by simp; omega
            clear h hb1
            gi_wp2_with (first | (refine ⟨trivial, ?_⟩; gi_at_call 122; refine (callsIn_wide.2 (HRL.out _)).mono ?_; rintro e w2 ⟨rfl, rfl⟩) | (refine ⟨trivial, ?_⟩; gi_at_call 123; refine (callsIn_wide.2 (HPC.out _)).mono ?_; rw [← HPL.out]; rintro e w2 ⟨rfl, rfl⟩))
            refine ⟨trivial, ?_⟩
            refine HCALL.out.mono ?_
            rintro e W' (⟨rfl, hJ', hk⟩ | ⟨rfl, hJx'⟩)
            · gi_wp2
              go_roundw
              case rel => exact ⟨q + wd, q + nn, _, by go_num, HI.out.next hq HX.out HW.out hk, hJ'⟩
              case measure => exact HI.out.meas (HI.out.next hq HX.out HW.out hk) (by omega) hq
            · gi_wp2
              refine bodyPost_ret (results_none rfl _ _ _) rfl ?_
              exact ⟨⟨_, rfl⟩, .inr ⟨_, HPF.out, hJx'⟩⟩
          · have q4 : ¬ ((s.size : Int) - (q : Int) < 3) := by omega
            have hz1 : q + 1 < s.size := by omega
            have q2 := byteAt_get s (q + 1) hz1
            rw [h] at q2
            have q3 := byteAt_get s (q + 2) hz
            obtain ⟨b2, hb2⟩ : ∃ b2, b2 = byteAt s (q + 2) := ⟨_, rfl⟩
            rw [← hb2] at q3 h'
            have q1' : ((b2 : Int) != 189) = true := by simp; omega
            clear h h' hb2
            gi_wp2_with (first | (refine ⟨trivial, ?_⟩; gi_at_call 122; refine (callsIn_wide.2 (HRL.out _)).mono ?_; rintro e w2 ⟨rfl, rfl⟩) | (refine ⟨trivial, ?_⟩; gi_at_call 123; refine (callsIn_wide.2 (HPC.out _)).mono ?_; rw [← HPL.out]; rintro e w2 ⟨rfl, rfl⟩))
            refine ⟨trivial, ?_⟩
            refine HCALL.out.mono ?_
            rintro e W' (⟨rfl, hJ', hk⟩ | ⟨rfl, hJx'⟩)
            · gi_wp2
              go_roundw
              case rel => exact ⟨q + wd, q + nn, _, by go_num, HI.out.next hq HX.out HW.out hk, hJ'⟩
              case measure => exact HI.out.meas (HI.out.next hq HX.out HW.out hk) (by omega) hq
            · gi_wp2
              refine bodyPost_ret (results_none rfl _ _ _) rfl ?_
              exact ⟨⟨_, rfl⟩, .inr ⟨_, HPF.out, hJx'⟩⟩
    · have hnx : ∀ ty, (Instr.next (.pointer (some ⟨w.heap.size, 0, none⟩)) true ty).run Tryd.prog wr = _ := fun ty => Lib.run_next_end_at wr w.heap.size s q ty hit hq
      clear hit
      gi_wp2
      go_end0
      exact ⟨⟨_, rfl⟩, .inl (by rw [← HI.out.fin hq]; exact HJs.out)⟩
end Go.Proofs.YtelhnaphkbpakaaDoor
