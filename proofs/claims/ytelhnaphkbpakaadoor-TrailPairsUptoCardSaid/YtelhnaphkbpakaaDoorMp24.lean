/- Part 24 of the proof of TpP: lemmas. -/
import Derived.Laws.StructEq
import Derived.Test.YtelhnaphkbpakaaDoorMp23
namespace Go.Proofs.YtelhnaphkbpakaaDoor
open Go.RowKit
set_option linter.unusedVariables false
set_option maxRecDepth 100000
def FB (bs : Nat) (L : List LA) (k : Nat) : Prop := ∀ k', k' < k → Srt L (k' * bs) ((k' + 1) * bs)
def BS (bs n : Nat) (L : List LA) : Prop := ∀ k, Srt L (k * bs) (min ((k + 1) * bs) n)
def TB (bs n : Nat) (L : List LA) (j : Nat) : Prop := ∀ k, j ≤ k → Srt L (k * bs) (min ((k + 1) * bs) n)
theorem FB.zero (bs : Nat) (L : List LA) : FB bs L 0 := fun k h => by omega
theorem FB.step {bs k : Nat} {L L' : List LA} (h : FB bs L k) (he : ∀ i, i < k * bs → L'[i]? = L[i]?) (hs : Srt L' (k * bs) ((k + 1) * bs)) : FB bs L' (k + 1) := fun k' hk => by
  by_cases e : k' = k
  · rw [e]; exact hs
  · have h1 : (k' + 1) * bs ≤ k * bs := Nat.mul_le_mul_right _ (by omega)
    exact (h k' (by omega)).same (fun i i1 i2 => he i (by omega))
theorem FB.last {bs n k : Nat} {L L' : List LA} (h : FB bs L k) (hk : k * bs ≤ n) (hn : n < (k + 1) * bs) (he : ∀ i, i < k * bs → L'[i]? = L[i]?) (hs : Srt L' (k * bs) n) : BS bs n L' := fun k' => by
  by_cases e1 : k' < k
  · have h1 : (k' + 1) * bs ≤ k * bs := Nat.mul_le_mul_right _ (by omega)
    rw [Nat.min_eq_left (by omega)]
    exact (h k' e1).same (fun i i1 i2 => he i (by omega))
  · by_cases e2 : k' = k
    · rw [e2, Nat.min_eq_right (by omega)]; exact hs
    · have h1 : (k + 1) * bs ≤ k' * bs := Nat.mul_le_mul_right _ (by omega)
      exact Srt.less (by have := Nat.min_le_right ((k' + 1) * bs) n; omega)
theorem TB.next {bs n j j' : Nat} {L L' : List LA} (h : TB bs n L j) (hj : j ≤ j') (he : ∀ i, j' * bs ≤ i → L'[i]? = L[i]?) : TB bs n L' j' := fun k hk => by
  have h1 : j' * bs ≤ k * bs := Nat.mul_le_mul_right _ hk
  exact (h k (by omega)).same (fun i i1 i2 => he i (by omega))
theorem BS.all {bs n : Nat} {L : List LA} (h : BS bs n L) (hn : n ≤ bs) : Srt L 0 n := by
  have := h 0
  rw [Nat.zero_mul, Nat.zero_add, Nat.one_mul, Nat.min_eq_right hn] at this
  exact this
theorem mul2a (k bs : Nat) : 2 * k * bs = k * (2 * bs) := by rw [Nat.mul_comm 2 k, Nat.mul_assoc]
theorem mul2b (k bs : Nat) : (2 * k + 1) * bs = k * (2 * bs) + bs := by rw [Nat.add_mul, mul2a, Nat.one_mul]
theorem mul2c (k bs : Nat) : (2 * k + 1 + 1) * bs = (k + 1) * (2 * bs) := by rw [← mul2a]; congr 1
theorem mulS (k bs : Nat) : (k + 1) * bs = k * bs + bs := by rw [Nat.add_mul, Nat.one_mul]
theorem TB.two {bs n k : Nat} {L : List LA} (h : TB bs n L (2 * k)) (hb : (k + 1) * (2 * bs) ≤ n) : Srt L (k * (2 * bs)) (k * (2 * bs) + bs) ∧ Srt L (k * (2 * bs) + bs) ((k + 1) * (2 * bs)) := by
  have h1 := h (2 * k) (Nat.le_refl _)
  have h2 := h (2 * k + 1) (by omega)
  have e := mulS k (2 * bs)
  rw [mul2a, mul2b, Nat.min_eq_left (by omega)] at h1
  rw [mul2b, mul2c, Nat.min_eq_left hb] at h2
  exact ⟨h1, h2⟩
theorem TB.last {bs n k : Nat} {L : List LA} (h : TB bs n L (2 * k)) (hb : n < (k + 1) * (2 * bs)) (hm : k * (2 * bs) + bs < n) : Srt L (k * (2 * bs)) (k * (2 * bs) + bs) ∧ Srt L (k * (2 * bs) + bs) n := by
  have h1 := h (2 * k) (Nat.le_refl _)
  have h2 := h (2 * k + 1) (by omega)
  rw [mul2a, mul2b, Nat.min_eq_left (by omega)] at h1
  rw [mul2b, mul2c, Nat.min_eq_right (by omega)] at h2
  exact ⟨h1, h2⟩
theorem TB.lone {bs n k : Nat} {L : List LA} (h : TB bs n L (2 * k)) (hm : n ≤ k * (2 * bs) + bs) : Srt L (k * (2 * bs)) n := by
  have h1 := h (2 * k) (Nat.le_refl _)
  rw [mul2a, mul2b, Nat.min_eq_right (by omega)] at h1
  exact h1
set_option maxHeartbeats 8000000 in
theorem stable_calls (w : World) {lo hi B : Nat} {V : World} {a : Option Addr} {n cap : Nat} {L : List LA} (h : RowTo lo hi B V w a n cap L) (hg : ∀ g, (Value.slice a n cap).ownBlock = some g → lo ≤ g ∧ g < hi) (hv : ValOk lo hi V L) (hn : n ≤ 1099511627776) :
    Calls Tryd.prog 105 #[.slice a n cap, .int .i64 (n : Int), .func (.func 81) #[] #[]] w fun e w' => (∃ v, e = .returned v) ∧ ∃ L', RowTo lo hi B V w' a n cap L' ∧ L'.Perm L ∧ Srt L' 0 n := by
  have HH := Lib.hid h
  have HG := Lib.hid hg
  have HV := Lib.hid hv
  clear h hg hv
  go_enter Tryd.func105, Tryd.ntmps105
  go_wp2_with fail
  go_loopw [7, 8] (fun va vb wr => ∃ (s b k : Nat) (L' : List LA), va = .int .i64 (s : Nat) ∧ vb = .int .i64 (b : Nat) ∧ Hid (s = k * 20) ∧ b = s + 20 ∧ s ≤ n ∧ RowTo lo hi B V wr a n cap L' ∧ L'.Perm L ∧ FB 20 L' k) (fun va _ _ => n - (intOf va).toNat)
  case atStart => exact ⟨0, 20, 0, L, rfl, rfl, Lib.hid rfl, rfl, Nat.zero_le _, HH.out, List.Perm.refl _, FB.zero _ _⟩
  case round =>
    obtain ⟨s, b, k, L', rfl, rfl, hs, hbs, hsn, hR, hperm, hfb⟩ := hrel
    have HX := Lib.hid (And.intro hR (And.intro hperm hfb))
    have HB := Lib.hid hbs
    have hsb : s ≤ b := by omega
    by_cases hlt : b ≤ n
    · have p1 : (b : Int) ≤ (n : Int) := by omega
      have w1 : IntKind.i64.wrap ((b : Int) + 20) = (b : Int) + 20 := IntWalk.i64_in _ (by omega)
      have HIN := Lib.hid (insert_calls wr hR HG.out (HV.out.perm hperm) s b hn hsb hlt)
      clear hR hperm hfb hbs
      go_wp2_with fail
      refine HIN.out.mono ?_
      rintro e w2 ⟨⟨v, rfl⟩, L2, hR2, hp2, ho2, hs2⟩
      have H2 := Lib.hid (And.intro hR2 (And.intro hp2 (And.intro ho2 hs2)))
      clear hR2 hp2 ho2 hs2 HIN
      go_wp2_with fail
      go_roundw
      case rel =>
        refine ⟨b, b + 20, k + 1, L2, rfl, by go_num, Lib.hid (by have := hs.out; have := HB.out; omega), rfl, hlt, H2.out.1, H2.out.2.1.trans HX.out.2.1, HX.out.2.2.step (fun i hi => H2.out.2.2.1 i (.inl (by have := hs.out; omega))) ?_⟩
        have e1 := H2.out.2.2.2
        rw [HB.out, hs.out] at e1
        rw [mulS]; exact e1
      case measure => have := HB.out; simp [intOf]; omega
    · have p1 : ¬ (b : Int) ≤ (n : Int) := by omega
      have HIN := Lib.hid (insert_calls wr hR HG.out (HV.out.perm hperm) s n hn hsn (Nat.le_refl _))
      clear hR hperm hfb hbs
      go_wp2_with fail
      refine HIN.out.mono ?_
      rintro e w2 ⟨⟨v, rfl⟩, L2, hR2, hp2, ho2, hs2⟩
      have hbs2 : BS 20 n L2 := HX.out.2.2.last (by have := hs.out; omega) (by have := hs.out; have := HB.out; omega) (fun i hi => ho2 i (.inl (by have := hs.out; omega))) (by have e := hs.out; rw [← e]; exact hs2)
      have H2 := Lib.hid (And.intro hR2 (And.intro (hp2.trans HX.out.2.1) hbs2))
      clear hR2 hp2 ho2 hs2 HIN HX hbs2 HB hs p1 hsb hsn hlt
      go_wp2_with fail
      go_loopw [6] (fun v6 wr => ∃ (bs : Nat) (L' : List LA), v6 = .int .i64 (bs : Nat) ∧ 0 < bs ∧ RowTo lo hi B V wr a n cap L' ∧ L'.Perm L ∧ BS bs n L') (fun v6 _ => n - (intOf v6).toNat)
      case atStart => exact ⟨20, L2, rfl, by omega, H2.out.1, H2.out.2.1, H2.out.2.2⟩
      case round =>
        clear H2
        obtain ⟨bs, L3, rfl, hbs0, hR, hperm, hbsr⟩ := hrel
        have HX := Lib.hid (And.intro hR (And.intro hperm hbsr))
        clear hR hperm hbsr
        by_cases hlt : bs < n
        · have p1 : (bs : Int) < (n : Int) := by omega
          have w0 : IntKind.i64.wrap (2 * (bs : Int)) = 2 * (bs : Int) := IntWalk.i64_in _ (by omega)
          have w0' : IntKind.i64.wrap ((bs : Int) * 2) = (bs : Int) * 2 := IntWalk.i64_in _ (by omega)
          go_wp2_with fail
          go_loopw [7, 8] (fun va vb wr => ∃ (s b k : Nat) (L' : List LA), va = .int .i64 (s : Nat) ∧ vb = .int .i64 (b : Nat) ∧ Hid (s = k * (2 * bs)) ∧ b = s + 2 * bs ∧ s ≤ n ∧ RowTo lo hi B V wr a n cap L' ∧ L'.Perm L ∧ FB (2 * bs) L' k ∧ TB bs n L' (2 * k)) (fun va _ _ => n - (intOf va).toNat)
          case atStart => exact ⟨0, 2 * bs, 0, L3, rfl, by go_num, Lib.hid (by omega), by omega, Nat.zero_le _, HX.out.1, HX.out.2.1, FB.zero _ _, fun k _ => HX.out.2.2 k⟩
          case round =>
            clear HX
            obtain ⟨s, b, k, L', rfl, rfl, hs, hbs, hsn, hR, hperm, hfb, htb⟩ := hrel
            have HX := Lib.hid (And.intro hR (And.intro hperm (And.intro hfb htb)))
            have HB := Lib.hid hbs
            have HE : Hid (b = (k + 1) * (2 * bs)) := Lib.hid (by rw [mulS, ← hs.out]; exact hbs)
            have w1 : IntKind.i64.wrap ((s : Int) + (bs : Int)) = (s : Int) + (bs : Int) := IntWalk.i64_in _ (by omega)
            by_cases hlt2 : b ≤ n
            · have p2 : (b : Int) ≤ (n : Int) := by omega
              have w2 : IntKind.i64.wrap ((b : Int) + 2 * (bs : Int)) = (b : Int) + 2 * (bs : Int) := IntWalk.i64_in _ (by omega)
              have htw := htb.two (by rw [← HE.out]; exact hlt2)
              rw [← hs.out, ← HE.out] at htw
              have hsy := symMerge_calls wr hR HG.out (HV.out.perm hperm) s (s + bs) b hn (by omega) (by omega) hlt2 htw.1 htw.2
              rw [show ((s + bs : Nat) : Int) = (s : Int) + (bs : Int) by omega] at hsy
              have HSY := Lib.hid hsy
              clear hR hperm hfb htb hbs htw hsy
              go_wp2_with fail
              refine HSY.out.mono ?_
              rintro e w2 ⟨⟨v, rfl⟩, L2, hR2, hp2, ho2, hs2⟩
              have H2 := Lib.hid (And.intro hR2 (And.intro hp2 (And.intro ho2 hs2)))
              clear hR2 hp2 ho2 hs2 HSY
              go_wp2_with fail
              go_roundw
              case rel =>
                refine ⟨b, b + 2 * bs, k + 1, L2, rfl, by go_num, Lib.hid HE.out, rfl, hlt2, H2.out.1, H2.out.2.1.trans HX.out.2.1, HX.out.2.2.1.step (fun i hi => H2.out.2.2.1 i (.inl (by have := hs.out; omega))) ?_, HX.out.2.2.2.next (by omega) (fun i hi => H2.out.2.2.1 i (.inr (by have := HE.out; rw [show 2 * (k + 1) = 2 * k + 1 + 1 by omega, mul2c] at hi; omega)))⟩
                have e1 := H2.out.2.2.2
                rw [HE.out, hs.out] at e1
                exact e1
              case measure => have := HB.out; simp [intOf]; omega
            · have p2 : ¬ (b : Int) ≤ (n : Int) := by omega
              by_cases hm : s + bs < n
              · have p3 : (s : Int) + (bs : Int) < (n : Int) := by omega
                have htw := htb.last (by rw [← HE.out]; omega) (by rw [← hs.out]; exact hm)
                rw [← hs.out] at htw
                have hsy := symMerge_calls wr hR HG.out (HV.out.perm hperm) s (s + bs) n hn (by omega) hm (Nat.le_refl _) htw.1 htw.2
                rw [show ((s + bs : Nat) : Int) = (s : Int) + (bs : Int) by omega] at hsy
                have HSY := Lib.hid hsy
                clear hR hperm hfb htb hbs htw hsy
                go_wp2_with fail
                refine HSY.out.mono ?_
                rintro e w2 ⟨⟨v, rfl⟩, L2, hR2, hp2, ho2, hs2⟩
                have H2 := Lib.hid (And.intro hR2 (And.intro hp2 (And.intro ho2 hs2)))
                clear hR2 hp2 ho2 hs2 HSY
                go_wp2_with fail
                go_roundw
                case rel =>
                  exact ⟨2 * bs, L2, by first | (congr 1; omega) | (go_num; done), by omega, H2.out.1, H2.out.2.1.trans HX.out.2.1, HX.out.2.2.1.last (by rw [← hs.out]; exact hsn) (by rw [← HE.out]; omega) (fun i hi => H2.out.2.2.1 i (.inl (by have := hs.out; omega))) (by rw [← hs.out]; exact H2.out.2.2.2)⟩
                case measure => simp [intOf]; omega
              · have p3 : ¬ (s : Int) + (bs : Int) < (n : Int) := by omega
                clear hR hperm hfb htb hbs
                go_wp2_with fail
                go_roundw
                case rel =>
                  exact ⟨2 * bs, L', by first | (congr 1; omega) | (go_num; done), by omega, HX.out.1, HX.out.2.1, HX.out.2.2.1.last (by rw [← hs.out]; exact hsn) (by rw [← HE.out]; omega) (fun i hi => rfl) (HX.out.2.2.2.lone (n := n) (by rw [← hs.out]; omega))⟩
                case measure => simp [intOf]; omega
        · have p1 : ¬ (bs : Int) < (n : Int) := by omega
          go_wp2_with fail
          go_end0
          exact ⟨⟨_, rfl⟩, L3, HX.out.1, HX.out.2.1, HX.out.2.2.all (by omega)⟩
theorem sort_calls (w : World) {lo hi B : Nat} {V : World} {a : Option Addr} {n cap : Nat} {L : List LA} (h : RowTo lo hi B V w a n cap L) (hg : ∀ g, (Value.slice a n cap).ownBlock = some g → lo ≤ g ∧ g < hi) (hv : ValOk lo hi V L) (hn : n ≤ 1099511627776) :
    Calls Tryd.prog 80 #[.slice a n cap, .func (.func 81) #[] #[]] w fun e w' => (∃ v, e = .returned v) ∧ ∃ L', RowTo lo hi B V w' a n cap L' ∧ L'.Perm L ∧ Srt L' 0 n := by
  have HST := Lib.hid (stable_calls w h hg hv hn)
  clear h hg hv
  go_enter Tryd.func80, Tryd.ntmps80
  go_wp2_with fail
  refine HST.out.mono ?_
  rintro e w2 ⟨⟨v, rfl⟩, L2, hR2, hp2, hs2⟩
  have H2 := Lib.hid (And.intro hR2 (And.intro hp2 hs2))
  clear hR2 hp2 hs2 HST
  go_wp2_with fail
  go_end0
  exact ⟨⟨_, rfl⟩, L2, H2.out⟩
theorem sla_row {w : World} {B : Nat} {a : Option Addr} {n c : Nat} {L : List LA} (hr : w.ownsRow B 114 2 (.slice a n c) n (cellsA L)) (hz : ∀ x ∈ L, Sl16 w x.va x.val) (hn : ∀ x ∈ L, x.name.size ≤ 9223372036854775807) (hl : L.length ≤ 4611686018427387903) : SlA w a L :=
  ⟨fun j u hu => by obtain ⟨b, h1, h2, h3⟩ := row_src hr hu; exact ⟨b, 0, h1, h2, h3⟩, hl, hz, hn⟩
set_option maxHeartbeats 1000000 in
theorem cloneNil_calls (w : World) (n ca : Nat) : Calls Tryd.prog 79 #[.slice none n ca] w fun e w' => e = .returned (.slice none 0 0) ∧ w = w' := by
  have heq : ∀ w, (binOp .eql 64 (.slice none n ca) (.slice none 0 0)).run Tryd.prog w = .ok (.bool true) w := fun w => Lib.run_eql_slice_nil w _ _ none n ca 0 0 Tryd.underlying64
  go_enter Tryd.func79, Tryd.ntmps79
  go_wp2
  go_ret
  exact ⟨rfl, rfl⟩
set_option maxHeartbeats 2000000 in
theorem order_calls (w : World) {aa : Option Addr} {L : List LA} (ca : Nat) (hA : SlA w aa L) (hl : L.length ≤ 1099511627776) :
    Calls Tryd.prog 78 #[.slice aa L.length ca] w fun e w' => ∃ a' c' L', e = .returned (.slice a' L.length c') ∧ SlA w' a' L' ∧ L'.Perm L ∧ Srt L' 0 L.length ∧ Below w.heap.size w w' := by
  cases aa with
  | none =>
    have hL : L = [] := by
      rcases hA.src with h0 | ⟨ad, h1, _⟩
      · exact List.eq_nil_of_length_eq_zero h0
      · cases h1
    subst hL
    have hc := cloneNil_calls w 0 ca
    have hs := fun f => sort1_calls w (.slice none 0 0) f none 0 0 (by omega) rfl
    clear hA hl
    go_enter Tryd.func78, Tryd.ntmps78
    go_wp2_with (first | (go_at_call 79; refine hc.mono ?_; rintro e w2 ⟨rfl, rfl⟩) | (go_at_call 80; refine (hs _).mono ?_; rintro e w3 ⟨⟨r, rfl⟩, rfl⟩))
    go_ret
    exact ⟨none, 0, [], rfl, SlA.nil _ _, List.Perm.refl _, Srt.less (by simp), Below.refl _ _⟩
  | some ad =>
    have hc := clone54_calls w ca hA hl
    have HA := Lib.hid hA
    obtain ⟨n, hn⟩ : ∃ n, n = L.length := ⟨_, rfl⟩
    rw [← hn] at hl hc ⊢
    have HN := Lib.hid hn
    have HC := Lib.hid hc
    clear hn hc hA
    go_enter Tryd.func78, Tryd.ntmps78
    go_wp2_with fail
    refine HC.out.mono ?_
    rintro e w2 ⟨a2, c2, rfl, hown, hb⟩
    have hval : ValOk w.heap.size w2.heap.size w2 L := fun x hx w' ho => (HA.out.val x hx).below (hb.trans (ho.below hb.size))
    have hg : ∀ g, (Value.slice a2 n c2).ownBlock = some g → w.heap.size ≤ g ∧ g < w2.heap.size := fun g hg => by
      rcases hown.2 with ⟨h1, _⟩ | ⟨g', cap, cur, h1, h2, h3, _⟩
      · rw [h1] at hg; cases hg
      · rw [h1] at hg
        have : g' = g := by simpa [Value.ownBlock] using hg
        subst this
        exact ⟨h2, lt_of_some h3⟩
    have HS := Lib.hid (sort_calls w2 (lo := w.heap.size) (hi := w2.heap.size) (B := w.heap.size) (V := w2) ⟨OutW.refl _ _ _, hown⟩ hg hval hl)
    have HB := Lib.hid hb
    have HV := Lib.hid hval
    clear hown hb hval hg
    go_wp2_with fail
    refine HS.out.mono ?_
    rintro e w3 ⟨⟨v, rfl⟩, L', hR, hp, hs⟩
    have HF := Lib.hid (And.intro hR (And.intro hp hs))
    clear hR hp hs HS
    go_wp2
    go_ret
    refine ⟨a2, c2, L', rfl, sla_row HF.out.1.row (fun x hx => HV.out.perm HF.out.2.1 x hx w3 HF.out.1.out) (fun x hx => HA.out.nam x (HF.out.2.1.mem_iff.1 hx)) (by rw [HF.out.2.1.length_eq]; exact HA.out.len), HF.out.2.1, HF.out.2.2, HB.out.trans (HF.out.1.out.below HB.out.size)⟩
def BPost (p : Prop) (w : World) (e : Ending) (w' : World) : Prop := ∃ r, e = .returned (.bool r) ∧ (r = true ↔ p) ∧ Below w.heap.size w w'
set_option maxHeartbeats 2000000 in
theorem equalFunc_calls (w : World) {a b : Option Addr} {L M : List LA} (n ca cb : Nat) (hL : L.length = n) (hM : M.length = n) (hA : SlA w a L) (hB : SlA w b M) :
    Calls Tryd.prog 85 #[.slice a n ca, .slice b n cb, .func (.func 86) #[] #[]] w (BPost (L.map attrOf = M.map attrOf) w) := by
  have hn : n ≤ 4611686018427387903 := by rw [← hL]; exact hA.len
  have HL := Lib.hid (And.intro hL hM)
  have HA := Lib.hid (And.intro hA hB)
  clear hL hM hA hB
  go_enter Tryd.func85, Tryd.ntmps85
  go_wp2_with fail
  go_loopw [17] (fun v wr => ∃ i : Nat, v = .int .i64 (i : Nat) ∧ i ≤ n ∧ (∀ (j : Nat) (x y : LA), j < i → L[j]? = some x → M[j]? = some y → attrOf x = attrOf y) ∧ Below w.heap.size w wr) (fun v _ => n - (intOf v).toNat)
  case atStart => exact ⟨0, rfl, Nat.zero_le _, fun j x y h => absurd h (by omega), Below.refl _ _⟩
  case round =>
    obtain ⟨i, rfl, hi, heq, hb⟩ := hrel
    have HE := Lib.hid heq
    clear heq
    by_cases hlt : i < n
    · have p1 : (i : Int) < (n : Int) := by omega
      have p2 : (0 : Int) ≤ (i : Int) := by omega
      have w1 : IntKind.i64.wrap ((i : Int) + 1) = (i : Int) + 1 := IntWalk.i64_in _ (by omega)
      have h1 := HL.out.1
      have h2 := HL.out.2
      obtain ⟨x, hx⟩ : ∃ x, L[i]? = some x := ⟨_, List.getElem?_eq_getElem (by omega)⟩
      obtain ⟨y, hy⟩ : ∃ y, M[i]? = some y := ⟨_, List.getElem?_eq_getElem (by omega)⟩
      clear h1 h2
      obtain ⟨b1, o1, rfl, hl1, c1, c2⟩ := (HA.out.1.below hb).get hx
      obtain ⟨b2, o2, rfl, hl2, d1, d2⟩ := (HA.out.2.below hb).get hy
      have hbW : Below wr.heap.size wr ((wr.alloc (.cells #[.string x.name, .slice x.va x.val.length x.vc] 114)).alloc (.cells #[.string y.name, .slice y.va y.val.length y.vc] 114)) := ((Below.refl _ wr).alloc (Nat.le_refl _) _).alloc (by simp) _
      have he := eqAt_calls ((wr.alloc (.cells #[.string x.name, .slice x.va x.val.length x.vc] 114)).alloc (.cells #[.string y.name, .slice y.va y.val.length y.vc] 114)) x y ((HA.out.1.val x (List.mem_of_getElem? hx)).below (hb.trans (hbW.mono hb.size))) ((HA.out.2.val y (List.mem_of_getElem? hy)).below (hb.trans (hbW.mono hb.size)))
      unfold LA.v at he
      obtain ⟨r, hr⟩ : ∃ r, r = eqAt x y := ⟨_, rfl⟩
      rw [← hr] at he
      obtain ⟨xl, exl⟩ : ∃ xl, xl = x.val.length := ⟨_, rfl⟩
      obtain ⟨yl, eyl⟩ : ∃ yl, yl = y.val.length := ⟨_, rfl⟩
      rw [← exl] at c2 he hbW
      rw [← eyl] at d2 he hbW
      have HC := Lib.hid he
      have HR := Lib.hid hr
      have HBW := Lib.hid (And.intro hb hbW)
      have HXY := Lib.hid (And.intro hx hy)
      have d1' : (wr.alloc (.cells #[.string x.name, .slice x.va xl x.vc] 114)).cell? ⟨b2, o2 + i * 2, none⟩ = some (.string y.name) := (((Below.refl _ wr).alloc (Nat.le_refl _) _).cell (p := ⟨b2, o2 + i * 2, none⟩) hl2).trans d1
      have d2' : (wr.alloc (.cells #[.string x.name, .slice x.va xl x.vc] 114)).cell? ⟨b2, o2 + i * 2 + 1, none⟩ = some (.slice y.va yl y.vc) := (((Below.refl _ wr).alloc (Nat.le_refl _) _).cell (p := ⟨b2, o2 + i * 2 + 1, none⟩) hl2).trans d2
      clear he hr hb hbW hx hy exl eyl d1 d2
      cases r with
      | true =>
        go_wp2_with (go_at_call 86; refine HC.out.mono ?_; rintro e w2 ⟨rfl, b2⟩)
        go_roundw
        case rel =>
          refine ⟨i + 1, by go_num, hlt, fun j x' y' hj hx' hy' => ?_, HBW.out.1.trans ((HBW.out.2.trans (b2.mono HBW.out.2.size)).mono HBW.out.1.size)⟩
          by_cases hji : j = i
          · subst hji
            rw [HXY.out.1] at hx'
            rw [HXY.out.2] at hy'
            cases hx'
            cases hy'
            have := HR.out
            unfold eqAt at this
            have h2 := (Bool.and_eq_true _ _).mp this.symm
            exact Prod.ext (ba_eq.1 h2.1) (of_decide_eq_true h2.2)
          · exact HE.out j x' y' (by omega) hx' hy'
        case measure => simp [intOf]; omega
      | false =>
        go_wp2_with (go_at_call 86; refine HC.out.mono ?_; rintro e w2 ⟨rfl, b2⟩)
        go_ret
        refine ⟨false, rfl, ⟨fun h => absurd h (by simp), fun h => ?_⟩, HBW.out.1.trans ((HBW.out.2.trans (b2.mono HBW.out.2.size)).mono HBW.out.1.size)⟩
        have h1 := attrs_at h HXY.out.1 HXY.out.2
        have := HR.out
        unfold eqAt at this
        rw [h1.1, h1.2, ba_refl, decide_eq_true rfl] at this
        cases this
    · obtain rfl : i = n := by omega
      have p1 : ¬ (i : Int) < (i : Int) := by omega
      have HB := Lib.hid hb
      clear hb
      go_wp2
      go_ret
      exact ⟨true, rfl, ⟨fun _ => attrs_ext (by rw [HL.out.1, HL.out.2]) (fun j x y hj hx hy => HE.out j x y (by rw [← HL.out.1]; exact hj) hx hy), fun _ => rfl⟩, HB.out⟩
def EqD (c d : NC) : Prop := c.kind = d.kind ∧ c.name = d.name ∧ c.data = d.data ∧ c.attrs.Perm d.attrs
theorem sorted_iff {L M L' M' : List LA} {n : Nat} (hn : L.length = n) (hm : M.length = n) (hp : L'.Perm L) (hq : M'.Perm M) (hs : Srt L' 0 n) (ht : Srt M' 0 n) : L'.map attrOf = M'.map attrOf ↔ (L.map attrOf).Perm (M.map attrOf) := by
  constructor
  · intro h
    have h1 := (hp.map attrOf).symm
    rw [h] at h1
    exact h1.trans (hq.map attrOf)
  · intro h
    have h1 := ((hp.map attrOf).trans h).trans (hq.map attrOf).symm
    have e1 := hp.length_eq
    have e2 := hq.length_eq
    refine sorted_unique h1 (Srt.pairwise (by rw [e1, hn]; exact hs)) (Srt.pairwise (by rw [e2, hm]; exact ht))
theorem EqD.no {c d : NC} (h : ¬ (c.kind = d.kind ∧ c.name = d.name ∧ c.data = d.data ∧ c.attrs.length = d.attrs.length)) : ¬ EqD c d := fun e => h ⟨e.1, e.2.1, e.2.2.1, e.2.2.2.length_eq⟩
set_option maxHeartbeats 8000000 in
theorem equal_calls (w : World) (M N : Nd) (hM : NdIn w M) (hN : NdIn w N) (bM : M.L.length ≤ 1099511627776) (bN : N.L.length ≤ 1099511627776) :
    Calls Tryd.prog 46 #[M.v, N.v] w (BPost (EqD M.c N.c) w) := by
  obtain ⟨hMd, hMa, hMn, _⟩ := hM
  obtain ⟨hNd, hNa, hNn, _⟩ := hN
  obtain ⟨k, nm, da, dc, data, aa, ac, L, sl, ge⟩ := M
  obtain ⟨k2, nm2, da2, dc2, data2, aa2, ac2, L2, sl2, ge2⟩ := N
  simp only [Nd.v, Nd.cells] at *
  obtain ⟨n, en⟩ : ∃ n, n = L.length := ⟨_, rfl⟩
  obtain ⟨n2, en2⟩ : ∃ n2, n2 = L2.length := ⟨_, rfl⟩
  obtain ⟨m, em⟩ : ∃ m, m = data.length := ⟨_, rfl⟩
  obtain ⟨m2, em2⟩ : ∃ m2, m2 = data2.length := ⟨_, rfl⟩
  rw [← en, ← em, ← en2, ← em2]
  rw [← en] at bM
  rw [← en2] at bN
  obtain ⟨V, hV⟩ : ∃ V, V = (w.alloc (.cells #[.int .i64 k, .string nm, .slice da m dc, .slice aa n ac, .int .u32 sl, .int .u32 ge] 66)).alloc (.cells #[.int .i64 k2, .string nm2, .slice da2 m2 dc2, .slice aa2 n2 ac2, .int .u32 sl2, .int .u32 ge2] 66) := ⟨_, rfl⟩
  have hbV : Below w.heap.size w V := by rw [hV]; exact ((Below.refl _ w).alloc (Nat.le_refl _) _).alloc (by simp) _
  have v0 : V.heap[w.heap.size]? = some (.cells #[.int .i64 k, .string nm, .slice da m dc, .slice aa n ac, .int .u32 sl, .int .u32 ge] 66 (0, 0)) := by rw [hV]; exact alloc_blk (Go.heap_alloc_new w _) _
  have v1 : V.heap[w.heap.size + 1]? = some (.cells #[.int .i64 k2, .string nm2, .slice da2 m2 dc2, .slice aa2 n2 ac2, .int .u32 sl2, .int .u32 ge2] 66 (0, 0)) := by
    rw [hV]; have := Go.heap_alloc_new (w.alloc (.cells #[.int .i64 k, .string nm, .slice da m dc, .slice aa n ac, .int .u32 sl, .int .u32 ge] 66)) (.cells #[.int .i64 k2, .string nm2, .slice da2 m2 dc2, .slice aa2 n2 ac2, .int .u32 sl2, .int .u32 ge2] 66); rwa [World.size_alloc] at this
  have he := eq16_calls dc dc2 (hMd.below hbV) (hNd.below hbV)
  rw [← em, ← em2] at he
  have HE := Lib.hid he
  have HV := Lib.hid (And.intro hV (And.intro hbV (And.intro v0 v1)))
  have HA := Lib.hid (And.intro hMa hNa)
  have HL := Lib.hid (And.intro en en2)
  clear he hbV v0 v1 hMa hNa hMd hNd en en2 em em2
  by_cases hall : k = k2 ∧ nm = nm2 ∧ data = data2 ∧ n = n2
  · obtain ⟨rfl, rfl, rfl, rfl⟩ := hall
    have HE2 := HE.out
    rw [decide_eq_true rfl, hV] at HE2
    have HE3 := Lib.hid HE2
    clear HE2 HE
    go_enter Tryd.func46, Tryd.ntmps46
    go_wp2_with (go_at_call 77; refine HE3.out.mono ?_; rintro e w2 ⟨rfl, kk, rfl⟩)
    have HO1 : Hid (∀ w', Below V.heap.size V w' → Calls Tryd.prog 78 #[.slice aa n ac] w' fun e w'' => ∃ a' c' L', e = .returned (.slice a' n c') ∧ SlA w'' a' L' ∧ L'.Perm L ∧ Srt L' 0 n ∧ Below w'.heap.size w' w'') := Lib.hid (fun w' hb => by
      have h := order_calls w' ac (HA.out.1.below (HV.out.2.1.trans (hb.mono HV.out.2.1.size))) (by rw [← HL.out.1]; exact bM)
      rw [← HL.out.1] at h
      exact h)
    have HO2 : Hid (∀ w', Below V.heap.size V w' → Calls Tryd.prog 78 #[.slice aa2 n ac2] w' fun e w'' => ∃ a' c' L', e = .returned (.slice a' n c') ∧ SlA w'' a' L' ∧ L'.Perm L2 ∧ Srt L' 0 n ∧ Below w'.heap.size w' w'') := Lib.hid (fun w' hb => by
      have h := order_calls w' ac2 (HA.out.2.below (HV.out.2.1.trans (hb.mono HV.out.2.1.size))) (by rw [← HL.out.2]; exact bN)
      rw [← HL.out.2] at h
      exact h)
    have HSW : Hid (∀ w', Below V.heap.size V w' → w'.cell? ⟨w.heap.size, 3, none⟩ = some (.slice aa n ac) ∧ w'.cell? ⟨w.heap.size + 1, 3, none⟩ = some (.slice aa2 n ac2)) := Lib.hid (fun w' hb =>
      ⟨cell_blk ((hb.block _ (lt_of_some HV.out.2.2.1)).trans HV.out.2.2.1) 3 rfl, cell_blk ((hb.block _ (lt_of_some HV.out.2.2.2)).trans HV.out.2.2.2) 3 rfl⟩)
    have HD0 : Hid (Below V.heap.size V (((w.alloc (.cells #[.int .i64 k, .string nm, .slice da m dc, .slice aa n ac, .int .u32 sl, .int .u32 ge] 66)).alloc (.cells #[.int .i64 k, .string nm, .slice da2 m2 dc2, .slice aa2 n ac2, .int .u32 sl2, .int .u32 ge2] 66)).drewN kk).drew) := Lib.hid (by rw [← HV.out.1]; exact ((FrT.refl [] _ V).drewN kk).below (Nat.le_refl _) |>.drew)
    have HEF : Hid (∀ (w' : World) (a' b' : Option Addr) (ca cb : Nat) (La Lb : List LA), SlA w' a' La → SlA w' b' Lb → La.Perm L → Lb.Perm L2 → Calls Tryd.prog 85 #[.slice a' n ca, .slice b' n cb, .func (.func 86) #[] #[]] w' (BPost (La.map attrOf = Lb.map attrOf) w')) := Lib.hid (fun w' a' b' ca cb La Lb h1 h2 h3 h4 => equalFunc_calls w' n ca cb (by rw [h3.length_eq, HL.out.1]) (by rw [h4.length_eq, HL.out.2]) h1 h2)
    clear bM bN hV
    go_region_held3 (fun w' => w'.cell? ⟨w.heap.size, 3, none⟩ = some (.slice aa n ac) ∧ w'.cell? ⟨w.heap.size + 1, 3, none⟩ = some (.slice aa2 n ac2))
      (first | exact HSW.out _ HD0.out | exact HSW.out _ hb5 | exact HSW.out _ hb6 | exact HSW.out _ hb7)
      (first | (go_at_call 85; have hh := hb6; refine (HEF.out _ _ _ _ _ _ _ (hs5.below b6) hs6 hp5 hp6).mono ?_; rintro e w7 ⟨r, rfl, hr7, b7⟩; have hb7 := hb6.trans (b7.mono hb6.size)) | (go_at_call 78; have hh := hb5; refine (HO2.out _ hb5).mono ?_; rintro e w6 ⟨a6, c6, L6, rfl, hs6, hp6, ho6, b6⟩; have hb6 := hb5.trans (b6.mono hb5.size)) | (go_at_call 78; refine (HO1.out _ HD0.out).mono ?_; rintro e w5 ⟨a5, c5, L5, rfl, hs5, hp5, ho5, b5⟩; have hb5 := HD0.out.trans (b5.mono HD0.out.size)))
    have HF : Hid (r = true ↔ (L.map attrOf).Perm (L2.map attrOf)) := Lib.hid (hr7.trans (sorted_iff HL.out.1.symm HL.out.2.symm hp5 hp6 ho5 ho6))
    have HB7 := Lib.hid hb7
    clear hb5 hb6 hb7 b5 b6 b7 hs5 hs6 hp5 hp6 ho5 ho6 hr7
    go_wp2
    go_ret
    exact ⟨r, rfl, ⟨fun h => ⟨rfl, rfl, rfl, HF.out.1 h⟩, fun h => HF.out.2 h.2.2.2⟩, HV.out.2.1.trans (HB7.out.mono HV.out.2.1.size)⟩
  · have HNE : Hid (¬ EqD (Nd.c ⟨k, nm, da, dc, data, aa, ac, L, sl, ge⟩) (Nd.c ⟨k2, nm2, da2, dc2, data2, aa2, ac2, L2, sl2, ge2⟩)) := Lib.hid (EqD.no (fun h => hall (by
      obtain ⟨h1, h2, h3, h4⟩ := h
      simp only [Nd.c, List.length_map] at h4
      exact ⟨h1, h2, h3, by rw [HL.out.1, HL.out.2, h4]⟩)))
    have HB := Lib.hid HV.out.2.1
    rw [hV] at HB HE
    obtain ⟨r, hr⟩ : ∃ r, r = decide (data = data2) := ⟨_, rfl⟩
    rw [← hr] at HE
    clear bM bN
    by_cases hk : k = k2
    · subst hk
      by_cases hn : nm = nm2
      · subst hn
        cases r with
        | false =>
          clear hall hr hV
          go_enter Tryd.func46, Tryd.ntmps46
          go_wp2_with (go_at_call 77; refine HE.out.mono ?_; rintro e w2 ⟨rfl, kk, rfl⟩)
          all_goals go_ret
          all_goals exact ⟨false, rfl, ⟨fun h => absurd h (by simp), fun h => absurd h HNE.out⟩, by repeat (first | exact HB.out | exact HB.out.size | refine below_dN ?_ ?_ _)⟩
        | true =>
          have hnn : ¬ n = n2 := fun h => hall ⟨rfl, rfl, of_decide_eq_true hr.symm, h⟩
          have q : ((n : Int) != (n2 : Int)) = true := by simp; omega
          clear hall hr hV hnn
          go_enter Tryd.func46, Tryd.ntmps46
          go_wp2_with (go_at_call 77; refine HE.out.mono ?_; rintro e w2 ⟨rfl, kk, rfl⟩)
          all_goals go_ret
          all_goals exact ⟨false, rfl, ⟨fun h => absurd h (by simp), fun h => absurd h HNE.out⟩, by repeat (first | exact HB.out | exact HB.out.size | refine below_dN ?_ ?_ _)⟩
      · have e2 : (nm.toList == nm2.toList) = false := ba_ne hn
        have e1 : (nm.toList != nm2.toList) = true := by rw [bne, e2]; rfl
        clear hall hr hV hn
        go_enter Tryd.func46, Tryd.ntmps46
        go_wp2_with fail
        all_goals go_ret
        all_goals exact ⟨false, rfl, ⟨fun h => absurd h (by simp), fun h => absurd h HNE.out⟩, by repeat (first | exact HB.out | exact HB.out.size | refine below_dN ?_ ?_ _)⟩
    · have q : (k != k2) = true := by simp; exact hk
      clear hall hr hV hk
      go_enter Tryd.func46, Tryd.ntmps46
      go_wp2_with fail
      all_goals go_ret
      all_goals exact ⟨false, rfl, ⟨fun h => absurd h (by simp), fun h => absurd h HNE.out⟩, by repeat (first | exact HB.out | exact HB.out.size | refine below_dN ?_ ?_ _)⟩
theorem runits_q {w : World} {a b : Option Addr} {us vs : List Nat} (ca cb : Nat) (ha : Sl16 w a us) (hb : Sl16 w b vs) (q n : Nat) :
    Calls Tryd.prog 88 #[.slice a us.length ca, .slice b vs.length cb] (w.drewN (q + n)) fun e w' => e = .returned (.bool (decide (us = vs))) ∧ ∃ m, w' = w.drewN (q + m) :=
  (runits_calls ca cb (ha.drewN (q + n)) (hb.drewN (q + n))).mono fun e w' ⟨he, k, hw⟩ => ⟨he, n + k, by rw [← hw, World.drewN_drewN, Nat.add_assoc]⟩
set_option maxHeartbeats 4000000 in
theorem rattrs_calls {w : World} {a b : Option Addr} {L M : List LA} (ca cb : Nat) (hA : SlA w a L) (hB : SlA w b M) (bL : L.length ≤ 1099511627776) (bM : M.length ≤ 1099511627776) :
    Calls Tryd.prog 89 #[.slice a L.length ca, .slice b M.length cb] w fun e w' => ∃ r, e = .returned (.bool r) ∧ (r = true ↔ LikeA (L.map attrOf) (M.map attrOf)) ∧ ∃ k, w' = w.drewN k := by
  obtain ⟨n, en⟩ : ∃ n, n = L.length := ⟨_, rfl⟩
  obtain ⟨m, em⟩ : ∃ m, m = M.length := ⟨_, rfl⟩
  rw [← en] at bL ⊢
  rw [← em] at bM ⊢
  have HN := Lib.hid (And.intro en em)
  have HA := Lib.hid (And.intro hA hB)
  clear en em hA hB
  by_cases hnm : n = m
  · subst hnm
    go_enter Tryd.func89, Tryd.ntmps89
    go_wp2_with fail
    go_loopw [5] (fun v wr => ∃ (i k : Nat), v = .int .i64 (i : Nat) ∧ i ≤ n ∧ Hid (∀ j x, j < i → L[j]? = some x → attrOf x ∈ M.map attrOf) ∧ wr = w.drewN k) (fun v _ => n - (intOf v).toNat)
    case atStart => exact ⟨0, 0, rfl, Nat.zero_le _, Lib.hid (fun j x hj => absurd hj (by omega)), rfl⟩
    case round =>
      obtain ⟨i, k, rfl, hi, hF, rfl⟩ := hrel
      by_cases hlt : i < n
      · have p1 : (i : Int) < (n : Int) := by omega
        have p3 : (0 : Int) ≤ (i : Int) := by omega
        have w1 : IntKind.i64.wrap ((i : Int) + 1) = (i : Int) + 1 := IntWalk.i64_in _ (by omega)
        obtain ⟨x, hx⟩ : ∃ x, L[i]? = some x := ⟨_, List.getElem?_eq_getElem (by rw [← HN.out.1]; exact hlt)⟩
        have HX := Lib.hid hx
        clear hx
        go_wp2_with fail
        go_loopw [6, 7] (fun v6 v7 wr => ∃ (f : Bool) (j q : Nat), v6 = .bool f ∧ v7 = .int .i64 (j : Nat) ∧ j ≤ n ∧ Hid (f = true ↔ ∃ (j' : Nat) (y : LA), j' < j ∧ M[j']? = some y ∧ attrOf x = attrOf y) ∧ wr = w.drewN q) (fun _ v7 _ => n - (intOf v7).toNat)
        case atStart => exact ⟨false, 0, k, rfl, rfl, Nat.zero_le _, Lib.hid ⟨fun h => absurd h (by simp), fun ⟨j', y, h, _⟩ => absurd h (by omega)⟩, rfl⟩
        case round =>
          obtain ⟨f, j, q, rfl, rfl, hj, hG, rfl⟩ := hrel
          by_cases hjn : j < n
          · have p2 : (j : Int) < (n : Int) := by omega
            have p4 : (0 : Int) ≤ (j : Int) := by omega
            have w3 : IntKind.i64.wrap ((j : Int) + 1) = (j : Int) + 1 := IntWalk.i64_in _ (by omega)
            obtain ⟨y, hy⟩ : ∃ y, M[j]? = some y := ⟨_, List.getElem?_eq_getElem (by rw [← HN.out.2]; exact hjn)⟩
            obtain ⟨b1, o1, rfl, hb1, x1, x2⟩ := HA.out.1.get HX.out
            obtain ⟨b2, o2, rfl, hb2, y1, y2⟩ := HA.out.2.get hy
            have HQ := Lib.hid (runits_q x.vc y.vc (HA.out.1.val x (List.mem_of_getElem? HX.out)) (HA.out.2.val y (List.mem_of_getElem? hy)) q)
            obtain ⟨xl, exl⟩ : ∃ xl, xl = x.val.length := ⟨_, rfl⟩
            obtain ⟨yl, eyl⟩ : ∃ yl, yl = y.val.length := ⟨_, rfl⟩
            rw [← exl] at x2 HQ
            rw [← eyl] at y2 HQ
            have HY := Lib.hid hy
            obtain ⟨D, hD⟩ : ∃ D, D = decide (x.val = y.val) := ⟨_, rfl⟩
            rw [← hD] at HQ
            have HD := Lib.hid hD
            have HSTEP : Hid (∀ r : Bool, (r = true ↔ (f = true ∨ (x.name = y.name ∧ D = true))) → (r = true ↔ ∃ (j' : Nat) (y : LA), j' < j + 1 ∧ M[j']? = some y ∧ attrOf x = attrOf y)) := Lib.hid (fun r hr => by
              rw [hr, hG.out]
              constructor
              · rintro (⟨j', y', h1, h2, h3⟩ | ⟨h1, h2⟩)
                · exact ⟨j', y', by omega, h2, h3⟩
                · exact ⟨j, y, by omega, HY.out, by unfold attrOf; rw [h1, of_decide_eq_true (HD.out.symm.trans h2)]⟩
              · rintro ⟨j', y', h1, h2, h3⟩
                by_cases e : j' = j
                · subst e
                  rw [HY.out] at h2
                  cases h2
                  unfold attrOf at h3
                  injection h3 with h4 h5
                  exact .inr ⟨h4, by rw [HD.out]; exact decide_eq_true h5⟩
                · exact .inl ⟨j', y', by omega, h2, h3⟩)
            clear hy exl eyl hD
            cases f with
            | true =>
              go_wp2_with fail
              go_quiet ((go_at_call 88; exact HQ.out _))
              go_wp2_with fail
              go_quiet (fail)
              go_wp2_with fail
              go_roundw
              case rel => exact ⟨true, j + 1, _, rfl, by go_num, hjn, Lib.hid (HSTEP.out true (by simp)), rfl⟩
              case measure => simp [intOf]; omega
            | false =>
              by_cases hnm : x.name = y.name
              · rw [← hnm] at y1
                have HNM := Lib.hid hnm
                have q5 : (x.name.toList == x.name.toList) = true := ba_refl _
                clear hnm
                go_wp2_with fail
                go_quiet ((go_at_call 88; exact HQ.out _))
                go_wp2_with fail
                go_quiet (fail)
                go_wp2_with fail
                go_roundw
                case rel => exact ⟨D, j + 1, _, rfl, by go_num, hjn, Lib.hid (HSTEP.out D (by simp [HNM.out])), rfl⟩
                case measure => simp [intOf]; omega
              · have HNM := Lib.hid hnm
                have q5 : (x.name.toList == y.name.toList) = false := ba_ne hnm
                clear hnm
                go_wp2_with fail
                go_quiet ((go_at_call 88; exact HQ.out _))
                go_wp2_with fail
                go_quiet (fail)
                go_wp2_with fail
                go_roundw
                case rel => exact ⟨false, j + 1, _, rfl, by go_num, hjn, Lib.hid (HSTEP.out false (by simp [HNM.out])), rfl⟩
                case measure => simp [intOf]; omega
          · have hjn' : j = n := by omega
            subst hjn'
            have p2 : ¬ (j : Int) < (j : Int) := by omega
            cases f with
            | true =>
              have HNX : Hid (∀ j' x', j' < i + 1 → L[j']? = some x' → attrOf x' ∈ M.map attrOf) := Lib.hid (fun j' x' h1 h2 => by
                by_cases e : j' = i
                · subst e
                  rw [HX.out] at h2
                  cases h2
                  obtain ⟨j2, y, _, h3, h4⟩ := hG.out.1 rfl
                  rw [h4]
                  exact List.mem_map.2 ⟨y, List.mem_of_getElem? h3, rfl⟩
                · exact hF.out j' x' (by omega) h2)
              go_wp2_with fail
              go_roundw
              case rel => exact ⟨i + 1, _, by go_num, hlt, HNX, rfl⟩
              case measure => simp [intOf]; omega
            | false =>
              have HNO : Hid (¬ LikeA (L.map attrOf) (M.map attrOf)) := Lib.hid (fun h => by
                have h1 := h.2 (attrOf x) (List.mem_map.2 ⟨x, List.mem_of_getElem? HX.out, rfl⟩)
                obtain ⟨y, hy, e⟩ := List.mem_map.1 h1
                obtain ⟨j', hj', e'⟩ := List.mem_iff_getElem.1 hy
                have := hG.out.2 ⟨j', y, by rw [HN.out.2]; exact hj', by rw [List.getElem?_eq_getElem hj', e'], e.symm⟩
                simp at this)
              go_wp2_with fail
              try rw [Exit.noGoto_ret]
              go_ret
              exact .inl ⟨rfl, HNO.out, _, rfl⟩
      · have hin : i = n := by omega
        subst hin
        have p1 : ¬ (i : Int) < (i : Int) := by omega
        have HYES : Hid (LikeA (L.map attrOf) (M.map attrOf)) := Lib.hid ⟨by simp; rw [← HN.out.1, ← HN.out.2], fun z hz => by
          obtain ⟨x, hx, rfl⟩ := List.mem_map.1 hz
          obtain ⟨j', hj', e'⟩ := List.mem_iff_getElem.1 hx
          exact hF.out j' x (by rw [HN.out.1]; exact hj') (by rw [List.getElem?_eq_getElem hj', e'])⟩
        go_wp2_with fail
        try rw [Exit.noGoto_ret]
        go_ret
        exact .inr ⟨rfl, HYES.out, _, rfl⟩
  · have q : ((n : Int) != (m : Int)) = true := by simp; omega
    have HNO : Hid (¬ LikeA (L.map attrOf) (M.map attrOf)) := Lib.hid (fun h => hnm (by have := h.1; simp at this; rw [HN.out.1, HN.out.2, this]))
    clear hnm
    go_enter Tryd.func89, Tryd.ntmps89
    go_wp2
    try rw [Exit.noGoto_ret]
    go_ret
    exact ⟨false, rfl, ⟨fun h => absurd h (by simp), fun h => absurd h HNO.out⟩, 0, rfl⟩
def LikeP (M N : Nd) : Prop := M.kind = N.kind ∧ M.name = N.name ∧ M.data = N.data ∧ LikeA (M.L.map attrOf) (N.L.map attrOf)
theorem likeP_eqD {M N : Nd} (h : checkD M.kind M.name M.data.length (M.L.map LA.name) = 0) : LikeP M N ↔ EqD M.c N.c := by
  have hg := good_of_check h
  have e : (M.L.map attrOf).map Prod.fst = M.L.map LA.name := by rw [List.map_map]; rfl
  rw [← e] at hg
  have := likeA_perm (B := N.L.map attrOf) hg
  unfold LikeP EqD
  rw [this]
  rfl
theorem below_drew0 (V : World) (k : Nat) : Below V.heap.size V (V.drewN k) := ((FrT.refl [] _ V).drewN k).below (Nat.le_refl _)
set_option maxHeartbeats 4000000 in
theorem rlike_calls (w : World) (M N : Nd) (hM : NdIn w M) (hN : NdIn w N) (bM : M.L.length ≤ 1099511627776) (bN : N.L.length ≤ 1099511627776) :
    Calls Tryd.prog 51 #[M.v, N.v] w (BPost (LikeP M N) w) := by
  obtain ⟨hMd, hMa, hMn, _⟩ := hM
  obtain ⟨hNd, hNa, hNn, _⟩ := hN
  obtain ⟨k, nm, da, dc, data, aa, ac, L, sl, ge⟩ := M
  obtain ⟨k2, nm2, da2, dc2, data2, aa2, ac2, L2, sl2, ge2⟩ := N
  simp only [Nd.v, Nd.cells] at *
  obtain ⟨n, en⟩ : ∃ n, n = L.length := ⟨_, rfl⟩
  obtain ⟨n2, en2⟩ : ∃ n2, n2 = L2.length := ⟨_, rfl⟩
  obtain ⟨m, em⟩ : ∃ m, m = data.length := ⟨_, rfl⟩
  obtain ⟨m2, em2⟩ : ∃ m2, m2 = data2.length := ⟨_, rfl⟩
  obtain ⟨V, hV⟩ : ∃ V, V = (w.alloc (.cells #[.int .i64 k, .string nm, .slice da m dc, .slice aa n ac, .int .u32 sl, .int .u32 ge] 66)).alloc (.cells #[.int .i64 k2, .string nm2, .slice da2 m2 dc2, .slice aa2 n2 ac2, .int .u32 sl2, .int .u32 ge2] 66) := ⟨_, rfl⟩
  have hbV : Below w.heap.size w V := by rw [hV]; exact ((Below.refl _ w).alloc (Nat.le_refl _) _).alloc (by simp) _
  have v0 : V.heap[w.heap.size]? = some (.cells #[.int .i64 k, .string nm, .slice da m dc, .slice aa n ac, .int .u32 sl, .int .u32 ge] 66 (0, 0)) := by rw [hV]; exact alloc_blk (Go.heap_alloc_new w _) _
  have v1 : V.heap[w.heap.size + 1]? = some (.cells #[.int .i64 k2, .string nm2, .slice da2 m2 dc2, .slice aa2 n2 ac2, .int .u32 sl2, .int .u32 ge2] 66 (0, 0)) := by rw [hV]; have := Go.heap_alloc_new (w.alloc (.cells #[.int .i64 k, .string nm, .slice da m dc, .slice aa n ac, .int .u32 sl, .int .u32 ge] 66)) (.cells #[.int .i64 k2, .string nm2, .slice da2 m2 dc2, .slice aa2 n2 ac2, .int .u32 sl2, .int .u32 ge2] 66); rwa [World.size_alloc] at this
  have HE : Hid (Calls Tryd.prog 88 #[.slice da m dc, .slice da2 m2 dc2] V fun e w' => e = .returned (.bool (decide (data = data2))) ∧ Below V.heap.size V w') := Lib.hid (by
    rw [em, em2]
    exact (runits_calls dc dc2 (hMd.below hbV) (hNd.below hbV)).mono (by rintro e w' ⟨rfl, kk, rfl⟩; exact ⟨rfl, below_drew0 V kk⟩))
  have HAT : Hid (∀ W, Below V.heap.size V W → Calls Tryd.prog 89 #[.slice aa n ac, .slice aa2 n2 ac2] W fun e w' => ∃ r, e = .returned (.bool r) ∧ (r = true ↔ LikeA (L.map attrOf) (L2.map attrOf)) ∧ Below W.heap.size W w') := Lib.hid (fun W b => by
    rw [en, en2]
    have b2 := hbV.trans (b.mono hbV.size)
    exact (rattrs_calls ac ac2 (hMa.below b2) (hNa.below b2) bM bN).mono (by rintro e w' ⟨r, rfl, hr, kk, rfl⟩; exact ⟨r, rfl, hr, below_drew0 W kk⟩))
  have HV := Lib.hid (And.intro hbV (And.intro v0 v1))
  have HLP : Hid (LikeP ⟨k, nm, da, dc, data, aa, ac, L, sl, ge⟩ ⟨k2, nm2, da2, dc2, data2, aa2, ac2, L2, sl2, ge2⟩ ↔ (k = k2 ∧ nm = nm2 ∧ data = data2 ∧ LikeA (L.map attrOf) (L2.map attrOf))) := Lib.hid Iff.rfl
  obtain ⟨P, hP⟩ : ∃ P, P = LikeP ⟨k, nm, da, dc, data, aa, ac, L, sl, ge⟩ ⟨k2, nm2, da2, dc2, data2, aa2, ac2, L2, sl2, ge2⟩ := ⟨_, rfl⟩
  rw [← hP] at HLP ⊢
  obtain ⟨D, hD⟩ : ∃ D, D = decide (data = data2) := ⟨_, rfl⟩
  rw [← hD] at HE
  have HD := Lib.hid hD
  rw [← em, ← em2, ← en, ← en2]
  have hV2 := hV
  clear hMd hNd hMa hNa hMn hNn en en2 em em2 bM bN hbV v0 v1 hP hD hV
  go_enter Tryd.func51, Tryd.ntmps51
  by_cases hk : k = k2
  · subst hk
    have q1 : ((k : Int) == k) = true := by simp
    by_cases hn : nm = nm2
    · subst hn
      have q5 : (nm.toList == nm.toList) = true := ba_refl _
      cases D with
      | true =>
        go_wp2_with ((try rw [← hV2]); first | (have hh := HB2; go_at_call 89; refine (HAT.out _ HB2.out).mono ?_; rintro e w3 ⟨r, rfl, hr, b3⟩; have HR := Lib.hid hr; have HB3 := Lib.hid (HB2.out.trans (b3.mono HB2.out.size)); have y0 := (HB3.out.block _ (lt_of_some HV.out.2.1)).trans HV.out.2.1; have y1 := (HB3.out.block _ (lt_of_some HV.out.2.2)).trans HV.out.2.2; have c0 := cell_blk y0 0 rfl; have c1 := cell_blk y0 1 rfl; have d0 := cell_blk y1 0 rfl; have d1 := cell_blk y1 1 rfl; clear b3 hr HB2 hh y0 y1) | (go_at_call 88; refine HE.out.mono ?_; rintro e w2 ⟨rfl, b2⟩; have HB2 := Lib.hid b2; have y0 := (b2.block _ (lt_of_some HV.out.2.1)).trans HV.out.2.1; have y1 := (b2.block _ (lt_of_some HV.out.2.2)).trans HV.out.2.2; have c3 := cell_blk y0 3 rfl; have d3 := cell_blk y1 3 rfl; clear b2 y0 y1))
        try rw [Exit.noGoto_ret]
        go_ret
        exact ⟨r, rfl, by rw [HLP.out]; exact ⟨fun h => ⟨by simp, by simp, of_decide_eq_true HD.out.symm, HR.out.1 h⟩, fun h => HR.out.2 h.2.2.2⟩, HV.out.1.trans (HB3.out.mono HV.out.1.size)⟩
      | false =>
        go_wp2_with ((try rw [← hV2]); first | (have hh := HB2; go_at_call 89; refine (HAT.out _ HB2.out).mono ?_; rintro e w3 ⟨r, rfl, hr, b3⟩; have HR := Lib.hid hr; have HB3 := Lib.hid (HB2.out.trans (b3.mono HB2.out.size)); have y0 := (HB3.out.block _ (lt_of_some HV.out.2.1)).trans HV.out.2.1; have y1 := (HB3.out.block _ (lt_of_some HV.out.2.2)).trans HV.out.2.2; have c0 := cell_blk y0 0 rfl; have c1 := cell_blk y0 1 rfl; have d0 := cell_blk y1 0 rfl; have d1 := cell_blk y1 1 rfl; clear b3 hr HB2 hh y0 y1) | (go_at_call 88; refine HE.out.mono ?_; rintro e w2 ⟨rfl, b2⟩; have HB2 := Lib.hid b2; have y0 := (b2.block _ (lt_of_some HV.out.2.1)).trans HV.out.2.1; have y1 := (b2.block _ (lt_of_some HV.out.2.2)).trans HV.out.2.2; have c3 := cell_blk y0 3 rfl; have d3 := cell_blk y1 3 rfl; clear b2 y0 y1))
        try rw [Exit.noGoto_ret]
        go_ret
        exact ⟨false, rfl, by rw [HLP.out]; exact ⟨fun h => absurd h (by simp), fun h => absurd h.2.2.1 (of_decide_eq_false HD.out.symm)⟩, HV.out.1.trans (HB3.out.mono HV.out.1.size)⟩
    · have HNM := Lib.hid hn
      have q5 : (nm.toList == nm2.toList) = false := ba_ne hn
      clear hn
      go_wp2_with ((try rw [← hV2]); first | (have hh := HB2; go_at_call 89; refine (HAT.out _ HB2.out).mono ?_; rintro e w3 ⟨r, rfl, hr, b3⟩; have HR := Lib.hid hr; have HB3 := Lib.hid (HB2.out.trans (b3.mono HB2.out.size)); have y0 := (HB3.out.block _ (lt_of_some HV.out.2.1)).trans HV.out.2.1; have y1 := (HB3.out.block _ (lt_of_some HV.out.2.2)).trans HV.out.2.2; have c0 := cell_blk y0 0 rfl; have c1 := cell_blk y0 1 rfl; have d0 := cell_blk y1 0 rfl; have d1 := cell_blk y1 1 rfl; clear b3 hr HB2 hh y0 y1) | (go_at_call 88; refine HE.out.mono ?_; rintro e w2 ⟨rfl, b2⟩; have HB2 := Lib.hid b2; have y0 := (b2.block _ (lt_of_some HV.out.2.1)).trans HV.out.2.1; have y1 := (b2.block _ (lt_of_some HV.out.2.2)).trans HV.out.2.2; have c3 := cell_blk y0 3 rfl; have d3 := cell_blk y1 3 rfl; clear b2 y0 y1))
      try rw [Exit.noGoto_ret]
      go_ret
      exact ⟨false, rfl, by rw [HLP.out]; exact ⟨fun h => absurd h (by simp), fun h => absurd h.2.1 HNM.out⟩, HV.out.1.trans (HB3.out.mono HV.out.1.size)⟩
  · have HNK := Lib.hid hk
    have q1 : ((k : Int) == k2) = false := by simp [hk]
    clear hk
    go_wp2_with ((try rw [← hV2]); first | (have hh := HB2; go_at_call 89; refine (HAT.out _ HB2.out).mono ?_; rintro e w3 ⟨r, rfl, hr, b3⟩; have HR := Lib.hid hr; have HB3 := Lib.hid (HB2.out.trans (b3.mono HB2.out.size)); have y0 := (HB3.out.block _ (lt_of_some HV.out.2.1)).trans HV.out.2.1; have y1 := (HB3.out.block _ (lt_of_some HV.out.2.2)).trans HV.out.2.2; have c0 := cell_blk y0 0 rfl; have c1 := cell_blk y0 1 rfl; have d0 := cell_blk y1 0 rfl; have d1 := cell_blk y1 1 rfl; clear b3 hr HB2 hh y0 y1) | (go_at_call 88; refine HE.out.mono ?_; rintro e w2 ⟨rfl, b2⟩; have HB2 := Lib.hid b2; have y0 := (b2.block _ (lt_of_some HV.out.2.1)).trans HV.out.2.1; have y1 := (b2.block _ (lt_of_some HV.out.2.2)).trans HV.out.2.2; have c3 := cell_blk y0 3 rfl; have d3 := cell_blk y1 3 rfl; clear b2 y0 y1))
    try rw [Exit.noGoto_ret]
    go_ret
    exact ⟨false, rfl, by rw [HLP.out]; exact ⟨fun h => absurd h (by simp), fun h => absurd h.1 HNK.out⟩, HV.out.1.trans (HB3.out.mono HV.out.1.size)⟩
end Go.Proofs.YtelhnaphkbpakaaDoor
namespace Go.Proofs.YtelhnaphkbpakaaDoor
set_option linter.unusedVariables false
structure FN where
  sl : Nat
  gn : Nat
  up : Option Nat
  down : List Nat
  live : Bool
abbrev For := List FN
inductive Chain (F : For) : Nat → List Nat → Prop
  | root {k : Nat} {x : FN} : F[k]? = some x → x.up = none → Chain F k [k]
  | up {k u : Nat} {x : FN} {l : List Nat} : F[k]? = some x → x.up = some u → Chain F u l → Chain F k (k :: l)
structure FOk (F : For) : Prop where
  upd : ∀ (k : Nat) (x : FN) (u : Nat), F[k]? = some x → x.up = some u → ∃ y : FN, F[u]? = some y ∧ y.live = true ∧ k ∈ y.down
  dn : ∀ (u : Nat) (y : FN), F[u]? = some y → ∀ c ∈ y.down, ∃ x : FN, F[c]? = some x ∧ x.up = some u ∧ x.live = true
  nd : ∀ (u : Nat) (y : FN), F[u]? = some y → y.down.Nodup
  dead : ∀ (k : Nat) (x : FN), F[k]? = some x → x.live = false → x.up = none ∧ x.down = []
  acyc : ∀ (k : Nat) (x : FN), F[k]? = some x → ∃ l, Chain F k l
theorem Chain.det {F : For} {k : Nat} {l : List Nat} (h : Chain F k l) : ∀ {m : List Nat}, Chain F k m → l = m := by
  induction h with
  | root hx hu =>
    intro m hm
    cases hm with
    | root _ _ => rfl
    | up hx' hu' _ => rw [hx] at hx'; cases hx'; rw [hu] at hu'; cases hu'
  | up hx hu _ ih =>
    intro m hm
    cases hm with
    | root hx' hu' => rw [hx] at hx'; cases hx'; rw [hu] at hu'; cases hu'
    | up hx' hu' hc => rw [hx] at hx'; cases hx'; rw [hu] at hu'; cases hu'; rw [ih hc]
theorem Chain.ne_nil {F : For} {k : Nat} {l : List Nat} (h : Chain F k l) : ∃ t, l = k :: t := by cases h <;> exact ⟨_, rfl⟩
theorem Chain.mem_lt {F : For} {k : Nat} {l : List Nat} (h : Chain F k l) : ∀ m ∈ l, m < F.length := by
  induction h with
  | root hx hu => intro m hm; simp at hm; subst hm; exact (List.getElem?_eq_some_iff.1 hx).1
  | up hx hu _ ih =>
    intro m hm
    rcases List.mem_cons.1 hm with rfl | hm
    · exact (List.getElem?_eq_some_iff.1 hx).1
    · exact ih m hm
theorem Chain.at {F : For} {k : Nat} {l : List Nat} (h : Chain F k l) : ∀ {a : List Nat} {m : Nat} {b : List Nat}, l = a ++ m :: b → Chain F m (m :: b) := by
  induction h with
  | root hx hu =>
    intro a m b e
    cases a with
    | nil => simp at e; obtain ⟨rfl, rfl⟩ := e; exact .root hx hu
    | cons y a => simp at e
  | up hx hu hc ih =>
    intro a m b e
    cases a with
    | nil => simp at e; obtain ⟨rfl, rfl⟩ := e; exact .up hx hu hc
    | cons y a => simp at e; exact ih e.2
theorem Chain.nodup {F : For} {k : Nat} {l : List Nat} (h : Chain F k l) : l.Nodup := by
  induction h with
  | root hx hu => simp
  | @up k u x l hx hu hc ih =>
    refine List.nodup_cons.2 ⟨fun hm => ?_, ih⟩
    obtain ⟨a, b, e⟩ := List.append_of_mem hm
    have h1 := hc.at e
    have h2 := h1.det (.up hx hu hc)
    have := congrArg List.length h2
    rw [e] at this
    simp at this
    omega
theorem nodup_bound : ∀ (n : Nat) (l : List Nat), l.Nodup → (∀ m ∈ l, m < n) → l.length ≤ n := by
  intro n
  induction n with
  | zero => intro l _ h; cases l with
    | nil => simp
    | cons x l => exact absurd (h x (by simp)) (by omega)
  | succ n ih =>
    intro l hn h
    have h1 := ih (l.filter (· ≠ n)) (hn.sublist List.filter_sublist) (fun m hm => by
      have := List.mem_filter.1 hm
      have h2 := h m this.1
      have h3 : m ≠ n := by simpa using this.2
      omega)
    have h2 : l.length ≤ (l.filter (· ≠ n)).length + 1 := by
      by_cases hm : n ∈ l
      · have h3 : l.erase n = l.filter (· ≠ n) := by
          rw [List.Nodup.erase_eq_filter hn]; congr 1; funext x; simp [bne, BEq.beq]
        rw [← h3, List.length_erase_of_mem hm]
        omega
      · have : l.filter (· ≠ n) = l := List.filter_eq_self.2 (fun a ha => by simp; rintro rfl; exact hm ha)
        rw [this]; omega
    omega
theorem Chain.len {F : For} {k : Nat} {l : List Nat} (h : Chain F k l) : l.length ≤ F.length := nodup_bound _ _ h.nodup h.mem_lt
theorem Chain.keep {F G : For} {k : Nat} {l : List Nat} (h : Chain F k l) (hk : ∀ m ∈ l, (G[m]?).map FN.up = (F[m]?).map FN.up) : Chain G k l := by
  induction h with
  | @root k x hx hu =>
    have := hk k (by simp)
    rw [hx] at this
    obtain ⟨y, hy, e⟩ := Option.map_eq_some_iff.1 this
    exact .root hy (e.trans hu)
  | @up k u x l hx hu hc ih =>
    have := hk k (by simp)
    rw [hx] at this
    obtain ⟨y, hy, e⟩ := Option.map_eq_some_iff.1 this
    exact .up hy (e.trans hu) (ih (fun m hm => hk m (List.mem_cons_of_mem _ hm)))
theorem Chain.last {F : For} {k : Nat} {l : List Nat} (h : Chain F k l) : ∃ (a : List Nat) (r : Nat) (x : FN), l = a ++ [r] ∧ F[r]? = some x ∧ x.up = none := by
  induction h with
  | root hx hu => exact ⟨[], _, _, rfl, hx, hu⟩
  | up hx hu hc ih => obtain ⟨a, r, x, e, h1, h2⟩ := ih; exact ⟨_ :: a, r, x, by rw [e]; rfl, h1, h2⟩
theorem Chain.root_last {F : For} {k i : Nat} {l : List Nat} {x : FN} (h : Chain F k l) (hm : i ∈ l) (hx : F[i]? = some x) (hu : x.up = none) : ∃ a, l = a ++ [i] := by
  obtain ⟨a, b, e⟩ := List.append_of_mem hm
  have h1 := h.at e
  have h2 := h1.det (.root hx hu)
  obtain rfl : b = [] := by simpa using h2
  exact ⟨a, e⟩
theorem Chain.onto {F G : For} {i u : Nat} {k : Nat} {l : List Nat} (h : Chain F k l) : ∀ {a c : List Nat}, l = a ++ [i] → (∀ m ∈ a, (G[m]?).map FN.up = (F[m]?).map FN.up) → (∀ c, Chain G u c → Chain G i (i :: c)) → Chain G u c → Chain G k (a ++ i :: c) := by
  induction h with
  | @root k x hx hu =>
    intro a c e hk hi hc
    cases a with
    | nil => simp at e; subst e; exact hi c hc
    | cons y a => simp at e
  | @up k v x l hx hu hc ih =>
    intro a c e hk hi hc'
    cases a with
    | nil => simp at e; obtain ⟨rfl, rfl⟩ := e; exact hi c hc'
    | cons y a =>
      obtain ⟨rfl, e2⟩ : k = y ∧ l = a ++ [i] := by simpa using e
      clear e
      have := hk k (by simp)
      rw [hx] at this
      obtain ⟨z, hz, ez⟩ := Option.map_eq_some_iff.1 this
      exact .up hz (ez.trans hu) (ih e2 (fun m hm => hk m (List.mem_cons_of_mem _ hm)) hi hc')
def ins (l : List Nat) (p i : Nat) : List Nat := l.take p ++ i :: l.drop p
def hng (F : For) (i u p : Nat) : For := (F.modify u (fun y => { y with down := ins y.down p i })).modify i (fun x => { x with up := some u })
theorem hng_len (F : For) (i u p : Nat) : (hng F i u p).length = F.length := by simp [hng]
theorem hng_at {F : For} {i u p k : Nat} (hne : i ≠ u) : (hng F i u p)[k]? = if k = i then (F[i]?).map (fun x => { x with up := some u }) else if k = u then (F[u]?).map (fun y => { y with down := ins y.down p i }) else F[k]? := by
  unfold hng
  rw [List.getElem?_modify, List.getElem?_modify]
  by_cases h1 : k = i
  · subst h1
    simp [Ne.symm hne]
  · have h1' : ¬ i = k := fun e => h1 e.symm
    by_cases h2 : k = u
    · subst h2; simp [h1, h1']
    · have h2' : ¬ u = k := fun e => h2 e.symm
      simp [h1, h1', h2, h2']
theorem mem_ins {l : List Nat} {p i c : Nat} : c ∈ ins l p i ↔ c = i ∨ c ∈ l := by
  unfold ins
  rw [List.mem_append, List.mem_cons]
  constructor
  · rintro (h | h | h)
    · exact .inr (List.mem_of_mem_take h)
    · exact .inl h
    · exact .inr (List.mem_of_mem_drop h)
  · rintro (h | h)
    · exact .inr (.inl h)
    · rw [← List.take_append_drop p l] at h
      rcases List.mem_append.1 h with h | h
      · exact .inl h
      · exact .inr (.inr h)
theorem nodup_ins {l : List Nat} {p i : Nat} (h : l.Nodup) (hi : i ∉ l) : (ins l p i).Nodup := by
  have h1 : (ins l p i).Perm (i :: l) := by
    unfold ins
    refine List.perm_middle.trans ?_
    rw [List.take_append_drop]
  exact h1.nodup_iff.2 (List.nodup_cons.2 ⟨hi, h⟩)
theorem FOk.hang {F : For} (h : FOk F) {i u p : Nat} {x y : FN} (hx : F[i]? = some x) (hy : F[u]? = some y) (hxl : x.live = true) (hyl : y.live = true) (hxu : x.up = none) {c : List Nat} (hc : Chain F u c) (hni : i ∉ c) : FOk (hng F i u p) := by
  have hne : i ≠ u := by
    rintro rfl
    obtain ⟨t, ht⟩ := hc.ne_nil
    exact hni (by rw [ht]; simp)
  have eU : ∀ m, m ≠ i → ((hng F i u p)[m]?).map FN.up = (F[m]?).map FN.up := by
    intro m hm
    rw [hng_at hne, if_neg hm]
    split
    · rename_i e; subst e; rw [Option.map_map]; rfl
    · rfl
  have gi : (hng F i u p)[i]? = some { x with up := some u } := by rw [hng_at hne, if_pos rfl, hx]; rfl
  have gu : (hng F i u p)[u]? = some { y with down := ins y.down p i } := by rw [hng_at hne, if_neg (Ne.symm hne), if_pos rfl, hy]; rfl
  have go : ∀ m, m ≠ i → m ≠ u → (hng F i u p)[m]? = F[m]? := fun m h1 h2 => by rw [hng_at hne, if_neg h1, if_neg h2]
  have hid : i ∉ y.down := fun hm => by
    obtain ⟨x', hx', e, _⟩ := h.dn u y hy i hm
    rw [hx] at hx'; cases hx'; rw [hxu] at e; cases e
  have hnu : ∀ (m : Nat) (z : FN), F[m]? = some z → i ∉ z.down := fun m z hz hm => by
    obtain ⟨x', hx', e, _⟩ := h.dn m z hz i hm
    rw [hx] at hx'; cases hx'; rw [hxu] at e; cases e
  have hcu : Chain (hng F i u p) u c := hc.keep (fun m hm => eU m (by rintro rfl; exact hni hm))
  refine ⟨?_, ?_, ?_, ?_, ?_⟩
  · intro k z v hz hv
    by_cases hk : k = i
    · subst hk
      rw [gi] at hz; cases hz
      obtain rfl : u = v := by simpa using hv
      exact ⟨_, gu, hyl, by rw [mem_ins]; exact .inl rfl⟩
    · have hup : ∃ z', F[k]? = some z' ∧ z'.up = some v := by
        have := eU k hk
        rw [hz] at this
        obtain ⟨z', h1, h2⟩ := Option.map_eq_some_iff.1 this.symm
        exact ⟨z', h1, h2.trans hv⟩
      obtain ⟨z', h1, h2⟩ := hup
      obtain ⟨w, h3, h4, h5⟩ := h.upd k z' v h1 h2
      by_cases hvu : v = u
      · subst hvu
        rw [hy] at h3; cases h3
        exact ⟨_, gu, hyl, by rw [mem_ins]; exact .inr h5⟩
      · by_cases hvi : v = i
        · subst hvi
          rw [hx] at h3; cases h3
          exact ⟨_, gi, hxl, h5⟩
        · exact ⟨w, by rw [go v hvi hvu]; exact h3, h4, h5⟩
  · intro v z hz k hk
    have main : ∀ z', F[v]? = some z' → k ∈ z'.down → ∃ x : FN, (hng F i u p)[k]? = some x ∧ x.up = some v ∧ x.live = true := by
      intro z' hz' hk'
      obtain ⟨a, h1, h2, h3⟩ := h.dn v z' hz' k hk'
      have hki : k ≠ i := by rintro rfl; exact hnu v z' hz' hk'
      by_cases hku : k = u
      · subst hku; rw [hy] at h1; cases h1; exact ⟨_, gu, h2, h3⟩
      · exact ⟨a, by rw [go k hki hku]; exact h1, h2, h3⟩
    by_cases hv : v = i
    · subst hv
      rw [gi] at hz; cases hz
      exact main x hx hk
    · by_cases hvu : v = u
      · subst hvu
        rw [gu] at hz; cases hz
        rcases mem_ins.1 hk with rfl | hk
        · exact ⟨_, gi, rfl, hxl⟩
        · exact main y hy hk
      · rw [go v hv hvu] at hz
        exact main z hz hk
  · intro v z hz
    by_cases hv : v = i
    · subst hv; rw [gi] at hz; cases hz; exact h.nd _ x hx
    · by_cases hvu : v = u
      · subst hvu; rw [gu] at hz; cases hz; exact nodup_ins (h.nd _ y hy) hid
      · rw [go v hv hvu] at hz; exact h.nd v z hz
  · intro v z hz hl
    by_cases hv : v = i
    · subst hv; rw [gi] at hz; cases hz; rw [hxl] at hl; cases hl
    · by_cases hvu : v = u
      · subst hvu; rw [gu] at hz; cases hz; rw [hyl] at hl; cases hl
      · rw [go v hv hvu] at hz; exact h.dead v z hz hl
  · intro k z hz
    have hkl : k < F.length := by have := (List.getElem?_eq_some_iff.1 hz).1; rwa [hng_len] at this
    obtain ⟨l, hl⟩ := h.acyc k _ (List.getElem?_eq_getElem hkl)
    by_cases hm : i ∈ l
    · obtain ⟨a, e⟩ := hl.root_last hm hx hxu
      have hnd := hl.nodup
      rw [e] at hnd
      exact ⟨_, hl.onto e (fun m hma => eU m (by rintro rfl; exact (List.nodup_append.1 hnd).2.2 m hma m (by simp) rfl)) (fun c hc => .up gi rfl hc) hcu⟩
    · exact ⟨l, hl.keep (fun m hml => eU m (by rintro rfl; exact hm hml))⟩
/-! ### a node more; a node taken from its parent; a node gone -/
def Made (F : For) (s g : Nat) : For := F ++ [⟨s, g, none, [], true⟩]
theorem FOk.made {F : For} (h : FOk F) (s g : Nat) : FOk (Made F s g) := by
  have hl : ∀ m (z : FN), F[m]? = some z → (Made F s g)[m]? = some z := fun m z hz => by
    unfold Made; rw [List.getElem?_append_left (List.getElem?_eq_some_iff.1 hz).1]; exact hz
  have hr : ∀ m (z : FN), (Made F s g)[m]? = some z → F[m]? = some z ∨ (m = F.length ∧ z = ⟨s, g, none, [], true⟩) := fun m z hz => by
    unfold Made at hz
    rcases Nat.lt_or_ge m F.length with h1 | h1
    · rw [List.getElem?_append_left h1] at hz; exact .inl hz
    · rw [List.getElem?_append_right h1] at hz
      obtain ⟨h2, h3⟩ := List.getElem?_eq_some_iff.1 hz
      simp at h2 h3
      exact .inr ⟨by omega, h3.symm⟩
  refine ⟨?_, ?_, ?_, ?_, ?_⟩
  · intro k x u hx hu
    rcases hr k x hx with h1 | ⟨_, rfl⟩
    · obtain ⟨y, h2, h3⟩ := h.upd k x u h1 hu; exact ⟨y, hl _ _ h2, h3⟩
    · cases hu
  · intro u y hy c hc
    rcases hr u y hy with h1 | ⟨_, rfl⟩
    · obtain ⟨x, h2, h3⟩ := h.dn u y h1 c hc; exact ⟨x, hl _ _ h2, h3⟩
    · simp at hc
  · intro u y hy
    rcases hr u y hy with h1 | ⟨_, rfl⟩
    · exact h.nd u y h1
    · simp
  · intro u y hy hd
    rcases hr u y hy with h1 | ⟨_, rfl⟩
    · exact h.dead u y h1 hd
    · cases hd
  · intro u y hy
    rcases hr u y hy with h1 | ⟨e, rfl⟩
    · obtain ⟨l, hc⟩ := h.acyc u y h1
      exact ⟨l, hc.keep (fun m hm => by
        have h2 := hc.mem_lt m hm
        rw [hl m _ (List.getElem?_eq_getElem h2), List.getElem?_eq_getElem h2])⟩
    · exact ⟨_, .root hy rfl⟩
def cutF (F : For) (i u : Nat) : For := (F.modify u (fun y => { y with down := y.down.filter (fun c => c != i) })).modify i (fun x => { x with up := none })
theorem cutF_len (F : For) (i u : Nat) : (cutF F i u).length = F.length := by simp [cutF]
theorem cutF_at {F : For} {i u k : Nat} (hne : i ≠ u) : (cutF F i u)[k]? = if k = i then (F[i]?).map (fun x => { x with up := none }) else if k = u then (F[u]?).map (fun y => { y with down := y.down.filter (fun c => c != i) }) else F[k]? := by
  unfold cutF
  rw [List.getElem?_modify, List.getElem?_modify]
  by_cases h1 : k = i
  · subst h1
    simp [Ne.symm hne]
  · have h1' : ¬ i = k := fun e => h1 e.symm
    by_cases h2 : k = u
    · subst h2; simp [h1, h1']
    · have h2' : ¬ u = k := fun e => h2 e.symm
      simp [h1, h1', h2, h2']
theorem FOk.up_ne {F : For} (h : FOk F) {i u : Nat} {x : FN} (hx : F[i]? = some x) (hu : x.up = some u) : i ≠ u := by
  rintro rfl
  obtain ⟨l, hl⟩ := h.acyc i x hx
  cases hl with
  | root hx' hu' => rw [hx] at hx'; cases hx'; rw [hu] at hu'; cases hu'
  | up hx' hu' hc =>
    rw [hx] at hx'; cases hx'; rw [hu] at hu'; cases hu'
    have := hc.det (.up hx hu hc)
    have := congrArg List.length this
    simp at this
theorem Chain.cut {F G : For} {i : Nat} {xi : FN} (gi : G[i]? = some xi) (hiu : xi.up = none) (hk : ∀ m, m ≠ i → (G[m]?).map FN.up = (F[m]?).map FN.up) {k : Nat} {l : List Nat} (h : Chain F k l) : ∃ l', Chain G k l' := by
  induction h with
  | @root k x hx hu =>
    by_cases e : k = i
    · subst e; exact ⟨_, .root gi hiu⟩
    · have := hk k e
      rw [hx] at this
      obtain ⟨y, hy, e⟩ := Option.map_eq_some_iff.1 this
      exact ⟨_, .root hy (e.trans hu)⟩
  | @up k u x l hx hu hc ih =>
    by_cases e : k = i
    · subst e; exact ⟨_, .root gi hiu⟩
    · have := hk k e
      rw [hx] at this
      obtain ⟨y, hy, e⟩ := Option.map_eq_some_iff.1 this
      obtain ⟨l', hl'⟩ := ih
      exact ⟨_, .up hy (e.trans hu) hl'⟩
theorem FOk.cut {F : For} (h : FOk F) {i u : Nat} {x : FN} (hx : F[i]? = some x) (hu : x.up = some u) : FOk (cutF F i u) := by
  have hne := h.up_ne hx hu
  obtain ⟨y, hy, hyl, hmem⟩ := h.upd i x u hx hu
  have hxl : x.live = true := by
    cases e : x.live with
    | true => rfl
    | false => have := (h.dead i x hx e).1; rw [hu] at this; cases this
  have eU : ∀ m, m ≠ i → ((cutF F i u)[m]?).map FN.up = (F[m]?).map FN.up := by
    intro m hm
    rw [cutF_at hne, if_neg hm]
    split
    · rename_i e; subst e; rw [Option.map_map]; rfl
    · rfl
  have gi : (cutF F i u)[i]? = some { x with up := none } := by rw [cutF_at hne, if_pos rfl, hx]; rfl
  have gu : (cutF F i u)[u]? = some { y with down := y.down.filter (fun c => c != i) } := by rw [cutF_at hne, if_neg (Ne.symm hne), if_pos rfl, hy]; rfl
  have go : ∀ m, m ≠ i → m ≠ u → (cutF F i u)[m]? = F[m]? := fun m h1 h2 => by rw [cutF_at hne, if_neg h1, if_neg h2]
  have hnu : ∀ (m : Nat) (z : FN), F[m]? = some z → m ≠ u → i ∉ z.down := fun m z hz hm hmi => by
    obtain ⟨x', hx', e, _⟩ := h.dn m z hz i hmi
    rw [hx] at hx'; cases hx'; rw [hu] at e; cases e; exact hm rfl
  have hfil : ∀ c, c ∈ y.down.filter (fun c => c != i) ↔ c ∈ y.down ∧ c ≠ i := fun c => by rw [List.mem_filter]; simp
  refine ⟨?_, ?_, ?_, ?_, ?_⟩
  · intro k z v hz hv
    have hk : k ≠ i := by rintro rfl; rw [gi] at hz; cases hz; cases hv
    obtain ⟨z', h1, h2⟩ : ∃ z', F[k]? = some z' ∧ z'.up = some v := by
      have := eU k hk
      rw [hz] at this
      obtain ⟨z', h1, h2⟩ := Option.map_eq_some_iff.1 this.symm
      exact ⟨z', h1, h2.trans hv⟩
    obtain ⟨w, h3, h4, h5⟩ := h.upd k z' v h1 h2
    by_cases hvu : v = u
    · subst hvu
      rw [hy] at h3; cases h3
      exact ⟨_, gu, hyl, (hfil k).2 ⟨h5, hk⟩⟩
    · by_cases hvi : v = i
      · subst hvi
        rw [hx] at h3; cases h3
        exact ⟨_, gi, hxl, h5⟩
      · exact ⟨w, by rw [go v hvi hvu]; exact h3, h4, h5⟩
  · intro v z hz k hk
    have main : ∀ z', F[v]? = some z' → k ∈ z'.down → k ≠ i → ∃ x : FN, (cutF F i u)[k]? = some x ∧ x.up = some v ∧ x.live = true := by
      intro z' hz' hk' hki
      obtain ⟨a, h1, h2, h3⟩ := h.dn v z' hz' k hk'
      by_cases hku : k = u
      · subst hku; rw [hy] at h1; cases h1; exact ⟨_, gu, h2, h3⟩
      · exact ⟨a, by rw [go k hki hku]; exact h1, h2, h3⟩
    by_cases hv : v = i
    · subst hv
      rw [gi] at hz; cases hz
      exact main x hx hk (by rintro rfl; exact hnu k x hx hne hk)
    · by_cases hvu : v = u
      · subst hvu
        rw [gu] at hz; cases hz
        obtain ⟨h1, h2⟩ := (hfil k).1 hk
        exact main y hy h1 h2
      · rw [go v hv hvu] at hz
        exact main z hz hk (by rintro rfl; exact hnu v z hz hvu hk)
  · intro v z hz
    by_cases hv : v = i
    · subst hv; rw [gi] at hz; cases hz; exact h.nd _ x hx
    · by_cases hvu : v = u
      · subst hvu; rw [gu] at hz; cases hz; exact (h.nd _ y hy).sublist List.filter_sublist
      · rw [go v hv hvu] at hz; exact h.nd v z hz
  · intro v z hz hl
    by_cases hv : v = i
    · subst hv; rw [gi] at hz; cases hz; rw [hxl] at hl; cases hl
    · by_cases hvu : v = u
      · subst hvu; rw [gu] at hz; cases hz; rw [hyl] at hl; cases hl
      · rw [go v hv hvu] at hz; exact h.dead v z hz hl
  · intro k z hz
    have hkl : k < F.length := by have := (List.getElem?_eq_some_iff.1 hz).1; rwa [cutF_len] at this
    obtain ⟨l, hl⟩ := h.acyc k _ (List.getElem?_eq_getElem hkl)
    exact hl.cut gi rfl eU
def Kill (F : For) (i : Nat) : For := F.modify i (fun x => { x with live := false })
theorem kill_len (F : For) (i : Nat) : (Kill F i).length = F.length := by simp [Kill]
theorem kill_at {F : For} {i k : Nat} : (Kill F i)[k]? = if k = i then (F[i]?).map (fun x => { x with live := false }) else F[k]? := by
  unfold Kill
  rw [List.getElem?_modify]
  by_cases h1 : k = i
  · subst h1; simp
  · have h1' : ¬ i = k := fun e => h1 e.symm
    simp [h1, h1']
theorem FOk.kill {F : For} (h : FOk F) {i : Nat} {x : FN} (hx : F[i]? = some x) (hu : x.up = none) (hd : x.down = []) : FOk (Kill F i) := by
  have gi : (Kill F i)[i]? = some { x with live := false } := by rw [kill_at, if_pos rfl, hx]; rfl
  have go : ∀ m, m ≠ i → (Kill F i)[m]? = F[m]? := fun m h1 => by rw [kill_at, if_neg h1]
  have eU : ∀ m : Nat, ((Kill F i)[m]?).map FN.up = (F[m]?).map FN.up := by
    intro m
    by_cases hm : m = i
    · subst hm; rw [gi, hx]; rfl
    · rw [go m hm]
  refine ⟨?_, ?_, ?_, ?_, ?_⟩
  · intro k z v hz hv
    have hk : k ≠ i := by rintro rfl; rw [gi] at hz; cases hz; rw [hu] at hv; cases hv
    rw [go k hk] at hz
    obtain ⟨w, h3, h4, h5⟩ := h.upd k z v hz hv
    have hvi : v ≠ i := by rintro rfl; rw [hx] at h3; cases h3; rw [hd] at h5; cases h5
    exact ⟨w, by rw [go v hvi]; exact h3, h4, h5⟩
  · intro v z hz k hk
    have hv : v ≠ i := by rintro rfl; rw [gi] at hz; cases hz; rw [hd] at hk; cases hk
    rw [go v hv] at hz
    obtain ⟨a, h1, h2, h3⟩ := h.dn v z hz k hk
    have hki : k ≠ i := by rintro rfl; rw [hx] at h1; cases h1; rw [hu] at h2; cases h2
    exact ⟨a, by rw [go k hki]; exact h1, h2, h3⟩
  · intro v z hz
    by_cases hv : v = i
    · subst hv; rw [gi] at hz; cases hz; exact h.nd _ x hx
    · rw [go v hv] at hz; exact h.nd v z hz
  · intro v z hz hl
    by_cases hv : v = i
    · subst hv; rw [gi] at hz; cases hz; exact ⟨hu, hd⟩
    · rw [go v hv] at hz; exact h.dead v z hz hl
  · intro k z hz
    have hkl : k < F.length := by have := (List.getElem?_eq_some_iff.1 hz).1; rwa [kill_len] at this
    obtain ⟨l, hl⟩ := h.acyc k _ (List.getElem?_eq_getElem hkl)
    exact ⟨l, hl.keep (fun m _ => eU m)⟩
/-! ### the five links of a node -/
def hd (F : For) (o : Option Nat) : Nat × Nat := match o.bind (fun k => F[k]?) with | some x => (x.sl, x.gn) | none => (0, 0)
def dnOf (F : For) (o : Option Nat) : List Nat := match o.bind (fun k => F[k]?) with | some x => x.down | none => []
def upOf (F : For) (k : Nat) : Option Nat := (F[k]?).bind FN.up
def prevOf (l : List Nat) (k : Nat) : Option Nat := if l.idxOf k = 0 then none else l[l.idxOf k - 1]?
def nextOf (l : List Nat) (k : Nat) : Option Nat := l[l.idxOf k + 1]?
def lkO (F : For) (k : Nat) : Nat → Option Nat
  | 0 => upOf F k
  | 1 => (dnOf F (some k)).head?
  | 2 => (dnOf F (some k)).getLast?
  | 3 => prevOf (dnOf F (upOf F k)) k
  | 4 => nextOf (dnOf F (upOf F k)) k
  | _ => none
theorem idx_split {a b : List Nat} {k : Nat} (h : k ∉ a) : (a ++ k :: b).idxOf k = a.length := by
  rw [List.idxOf_append]
  simp [h]
theorem prev_split {a b : List Nat} {k : Nat} (h : k ∉ a) : prevOf (a ++ k :: b) k = a.getLast? := by
  unfold prevOf
  rw [idx_split h]
  cases a with
  | nil => rfl
  | cons x a =>
    rw [if_neg (by simp), List.getElem?_append_left (by simp), List.getLast?_eq_getElem?]
theorem next_split {a b : List Nat} {k : Nat} (h : k ∉ a) : nextOf (a ++ k :: b) k = b.head? := by
  unfold nextOf
  rw [idx_split h, List.getElem?_append_right (by omega), show a.length + 1 - a.length = 1 by omega]
  cases b <;> rfl
theorem prev_nil (k : Nat) : prevOf [] k = none := rfl
theorem next_nil (k : Nat) : nextOf [] k = none := rfl
def updO (L : Nat → Nat → Option Nat) (k j : Nat) (o : Option Nat) : Nat → Nat → Option Nat := fun k' j' => if k' = k ∧ j' = j then o else L k' j'
theorem updO_ne {L : Nat → Nat → Option Nat} {k j k' j' : Nat} (o : Option Nat) (h : k' ≠ k ∨ j' ≠ j) : updO L k j o k' j' = L k' j' := by
  unfold updO
  rw [if_neg]
  rintro ⟨rfl, rfl⟩
  rcases h with h | h <;> exact h rfl
def linkL (L : Nat → Nat → Option Nat) (i u : Nat) (f b : Option Nat) : Nat → Nat → Option Nat :=
  let L3 := updO (updO (updO L i 0 (some u)) i 3 f) i 4 b
  let L4 := match f with | none => updO L3 u 1 (some i) | some f => updO L3 f 4 (some i)
  match b with | none => updO L4 u 2 (some i) | some b => updO L4 b 3 (some i)
theorem hd_hng {F : For} {i u p : Nat} (hne : i ≠ u) (o : Option Nat) : hd (hng F i u p) o = hd F o := by
  cases o with
  | none => rfl
  | some k =>
    unfold hd
    show (match (hng F i u p)[k]? with | some x => (x.sl, x.gn) | none => (0, 0)) = (match F[k]? with | some x => (x.sl, x.gn) | none => (0, 0))
    rw [hng_at hne]
    by_cases h1 : k = i
    · subst h1; rw [if_pos rfl]; cases F[k]? <;> rfl
    · rw [if_neg h1]
      by_cases h2 : k = u
      · subst h2; rw [if_pos rfl]; cases F[k]? <;> rfl
      · rw [if_neg h2]
theorem up_hng {F : For} {i u p : Nat} {x : FN} (hx : F[i]? = some x) (hne : i ≠ u) (k : Nat) : upOf (hng F i u p) k = if k = i then some u else upOf F k := by
  unfold upOf
  rw [hng_at hne]
  by_cases h1 : k = i
  · subst h1; rw [if_pos rfl, if_pos rfl, hx]; rfl
  · rw [if_neg h1, if_neg h1]
    by_cases h2 : k = u
    · subst h2; rw [if_pos rfl]; cases F[k]? <;> rfl
    · rw [if_neg h2]
theorem dn_hng {F : For} {i u p : Nat} {y : FN} (hy : F[u]? = some y) (hne : i ≠ u) (k : Nat) : dnOf (hng F i u p) (some k) = if k = u then ins y.down p i else dnOf F (some k) := by
  unfold dnOf
  show (match (hng F i u p)[k]? with | some x => x.down | none => []) = if k = u then ins y.down p i else (match F[k]? with | some x => x.down | none => [])
  rw [hng_at hne]
  by_cases h1 : k = i
  · subst h1; rw [if_pos rfl, if_neg hne]; cases F[k]? <;> rfl
  · rw [if_neg h1]
    by_cases h2 : k = u
    · subst h2; rw [if_pos rfl, if_pos rfl, hy]; rfl
    · rw [if_neg h2, if_neg h2]
theorem lk_hng {F : For} (ok : FOk F) {i u : Nat} {x y : FN} {l1 l2 : List Nat} (hx : F[i]? = some x) (hy : F[u]? = some y) (hxu : x.up = none) (hne : i ≠ u) (hl : y.down = l1 ++ l2) (k j : Nat) (hj : j < 5) :
    lkO (hng F i u l1.length) k j = linkL (lkO F) i u l1.getLast? l2.head? k j := by
  have hid : i ∉ y.down := fun hm => by
    obtain ⟨x', hx', e, _⟩ := ok.dn u y hy i hm
    rw [hx] at hx'; cases hx'; rw [hxu] at e; cases e
  have hnd := ok.nd u y hy
  have hins : ins y.down l1.length i = l1 ++ i :: l2 := by unfold ins; rw [hl]; simp
  have hf : ∀ f, l1.getLast? = some f → f ∈ y.down ∧ f ≠ i ∧ f ≠ u := by
    intro f hf
    have hm : f ∈ y.down := by rw [hl]; exact List.mem_append_left _ (List.mem_of_getLast? hf)
    refine ⟨hm, by rintro rfl; exact hid hm, ?_⟩
    obtain ⟨z, hz, e, _⟩ := ok.dn u y hy f hm
    exact ok.up_ne hz e
  have hb : ∀ b, l2.head? = some b → b ∈ y.down ∧ b ≠ i ∧ b ≠ u := by
    intro b hb
    have hm : b ∈ y.down := by rw [hl]; exact List.mem_append_right _ (List.mem_of_head? hb)
    refine ⟨hm, by rintro rfl; exact hid hm, ?_⟩
    obtain ⟨z, hz, e, _⟩ := ok.dn u y hy b hm
    exact ok.up_ne hz e
  have hfb : ∀ f b, l1.getLast? = some f → l2.head? = some b → f ≠ b := by
    rintro f b h1 h2 rfl
    rw [hl] at hnd
    exact (List.nodup_append.1 hnd).2.2 f (List.mem_of_getLast? h1) f (List.mem_of_head? h2) rfl
  have hup := fun k => up_hng (p := l1.length) hx hne k
  have hdn := fun k => dn_hng (p := l1.length) hy hne k
  rw [hins] at hdn
  have hdu : dnOf F (some u) = l1 ++ l2 := by unfold dnOf; show (match F[u]? with | some x => x.down | none => []) = _; rw [hy]; exact hl
  have hui : upOf F i = none := by unfold upOf; rw [hx]; exact hxu
  -- where k hangs
  by_cases hki : k = i
  · subst hki
    have e1 : ∀ L : Nat → Nat → Option Nat, ∀ f, l1.getLast? = some f → updO L f 4 (some k) k j = L k j := fun L f h => updO_ne _ (.inl (Ne.symm (hf f h).2.1))
    have e2 : ∀ L : Nat → Nat → Option Nat, ∀ b, l2.head? = some b → updO L b 3 (some k) k j = L k j := fun L b h => updO_ne _ (.inl (Ne.symm (hb b h).2.1))
    have e3 : ∀ (L : Nat → Nat → Option Nat) (m : Nat), updO L u m (some k) k j = L k j := fun L m => updO_ne _ (.inl hne)
    have hL : linkL (lkO F) k u l1.getLast? l2.head? k j = updO (updO (updO (lkO F) k 0 (some u)) k 3 l1.getLast?) k 4 l2.head? k j := by
      unfold linkL
      cases hc : l1.getLast? with
      | none => cases hd : l2.head? with
        | none => simp only [e3]
        | some b => simp only [e2 _ b hd, e3]
      | some f => cases hd : l2.head? with
        | none => simp only [e1 _ f hc, e3]
        | some b => simp only [e2 _ b hd, e1 _ f hc]
    rw [hL]
    have hk1 : k ∉ l1 := fun h => hid (by rw [hl]; exact List.mem_append_left _ h)
    match j, hj with
    | 0, _ => simp [updO, lkO, hup]
    | 1, _ => simp [updO, lkO, hdn, hne]
    | 2, _ => simp [updO, lkO, hdn, hne]
    | 3, _ => simp only [lkO, hup, if_pos, hdn]; rw [prev_split hk1]; simp [updO]
    | 4, _ => simp only [lkO, hup, if_pos, hdn]; rw [next_split hk1]; simp [updO]
  · have hL3 : ∀ (L : Nat → Nat → Option Nat) (m : Nat) (o : Option Nat), updO L i m o k j = L k j := fun L m o => updO_ne _ (.inl hki)
    by_cases hku : k = u
    · subst hku
      have e1 : ∀ L : Nat → Nat → Option Nat, ∀ f, l1.getLast? = some f → updO L f 4 (some i) k j = L k j := fun L f h => updO_ne _ (.inl (Ne.symm (hf f h).2.2))
      have e2 : ∀ L : Nat → Nat → Option Nat, ∀ b, l2.head? = some b → updO L b 3 (some i) k j = L k j := fun L b h => updO_ne _ (.inl (Ne.symm (hb b h).2.2))
      have hL : linkL (lkO F) i k l1.getLast? l2.head? k j = if j = 1 ∧ l1 = [] then some i else if j = 2 ∧ l2 = [] then some i else lkO F k j := by
        unfold linkL
        cases hc : l1.getLast? with
        | none =>
          have h1 : l1 = [] := List.getLast?_eq_none_iff.1 hc
          cases hd : l2.head? with
          | none =>
            have h2 : l2 = [] := List.head?_eq_none_iff.1 hd
            simp only [h1, h2, and_true]
            unfold updO
            simp only [true_and]
            by_cases j1 : j = 1
            · subst j1; simp
            · by_cases j2 : j = 2
              · subst j2; simp
              · simp [j1, j2, hki]
          | some b =>
            have h2 : l2 ≠ [] := fun e => by rw [e] at hd; cases hd
            simp only [e2 _ b hd, h1, h2, and_true, and_false, if_false]
            unfold updO
            simp only [true_and]
            by_cases j1 : j = 1
            · subst j1; simp
            · simp [j1, hki]
        | some f =>
          have h1 : l1 ≠ [] := fun e => by rw [e] at hc; cases hc
          cases hd : l2.head? with
          | none =>
            have h2 : l2 = [] := List.head?_eq_none_iff.1 hd
            simp only [h1, h2, and_true, and_false, if_false]
            rw [show ∀ L : Nat → Nat → Option Nat, updO (updO L f 4 (some i)) k 2 (some i) k j = updO L k 2 (some i) k j from fun L => by unfold updO; simp only [true_and]; split; rfl; rw [if_neg]; rintro ⟨e, _⟩; exact (hf f hc).2.2 e.symm]
            unfold updO
            simp only [true_and]
            by_cases j2 : j = 2
            · subst j2; simp
            · simp [j2, hki]
          | some b =>
            have h2 : l2 ≠ [] := fun e => by rw [e] at hd; cases hd
            simp only [e2 _ b hd, e1 _ f hc, h1, h2, and_false, if_false]
            simp [hL3]
      rw [hL]
      have hpu : upOf F k ≠ some k := fun e => by
        have : y.up = some k := by unfold upOf at e; rw [hy] at e; exact e
        exact ok.up_ne hy this rfl
      have hsib : dnOf (hng F i k l1.length) (upOf F k) = dnOf F (upOf F k) := by
        cases e : upOf F k with
        | none => rfl
        | some v => rw [hdn, if_neg (by rintro rfl; exact hpu e)]
      match j, hj with
      | 0, _ => simp [lkO, hup, hki]
      | 1, _ => simp only [lkO, hdn, if_pos, hdu]; cases l1 <;> simp
      | 2, _ => simp only [lkO, hdn, if_pos, hdu]; cases l2 <;> simp [List.getLast?_append]
      | 3, _ => simp only [lkO, hup, if_neg hki, hsib]; simp
      | 4, _ => simp only [lkO, hup, if_neg hki, hsib]; simp
    · have hL : linkL (lkO F) i u l1.getLast? l2.head? k j = if l1.getLast? = some k ∧ j = 4 then some i else if l2.head? = some k ∧ j = 3 then some i else lkO F k j := by
        have e3 : ∀ (L : Nat → Nat → Option Nat) (m : Nat), updO L u m (some i) k j = L k j := fun L m => updO_ne _ (.inl hku)
        unfold linkL
        cases hc : l1.getLast? with
        | none =>
          cases hd : l2.head? with
          | none => simp [e3, hL3]
          | some b =>
            simp only [reduceCtorEq, false_and, if_false, Option.some.injEq]
            rw [show ∀ L : Nat → Nat → Option Nat, updO L b 3 (some i) k j = if b = k ∧ j = 3 then some i else L k j from fun L => by unfold updO; simp only [eq_comm]]
            simp only [e3, hL3]
        | some f =>
          cases hd : l2.head? with
          | none =>
            simp only [e3]
            simp only [reduceCtorEq, false_and, if_false, Option.some.injEq]
            rw [show ∀ L : Nat → Nat → Option Nat, updO L f 4 (some i) k j = if f = k ∧ j = 4 then some i else L k j from fun L => by unfold updO; simp only [eq_comm]]
            simp only [hL3]
          | some b =>
            simp only [Option.some.injEq]
            rw [show ∀ L : Nat → Nat → Option Nat, updO (updO L f 4 (some i)) b 3 (some i) k j = if b = k ∧ j = 3 then some i else if f = k ∧ j = 4 then some i else L k j from fun L => by unfold updO; simp only [eq_comm]]
            simp only [hL3]
            by_cases c1 : b = k ∧ j = 3
            · rw [if_pos c1, if_neg (by omega), if_pos c1]
            · rw [if_neg c1, if_neg c1]
      rw [hL]
      have hdk : dnOf (hng F i u l1.length) (some k) = dnOf F (some k) := by rw [hdn, if_neg hku]
      by_cases hk : upOf F k = some u
      · have hm : k ∈ y.down := by
          unfold upOf at hk
          obtain ⟨z, hz, e⟩ := Option.bind_eq_some_iff.1 hk
          obtain ⟨y', hy', _, h3⟩ := ok.upd k z u hz e
          rw [hy] at hy'; cases hy'; exact h3
        rw [hl] at hm hnd
        rcases List.mem_append.1 hm with h1 | h1
        · obtain ⟨a, c, e⟩ := List.append_of_mem h1
          have hnb : l2.head? ≠ some k := fun e => (List.nodup_append.1 hnd).2.2 k h1 k (List.mem_of_head? e) rfl
          have hka : k ∉ a := fun ha => by
            have := (List.nodup_append.1 hnd).1
            rw [e] at this
            exact (List.nodup_append.1 this).2.2 k ha k (by simp) rfl
          have q1 : l1 ++ i :: l2 = a ++ k :: (c ++ i :: l2) := by rw [e]; simp
          have q2 : l1 ++ l2 = a ++ k :: (c ++ l2) := by rw [e]; simp
          have hlast : l1.getLast? = some k ↔ c = [] := by
            rw [e]
            cases hc2 : c.getLast? with
            | none => have := List.getLast?_eq_none_iff.1 hc2; subst this; simp
            | some z =>
              have hcne : c ≠ [] := by rintro rfl; cases hc2
              rw [List.getLast?_append, List.getLast?_cons, hc2]
              simp only [Option.getD_some, Option.some_or, Option.some.injEq, hcne, iff_false]
              rintro rfl
              have := (List.nodup_append.1 hnd).1
              rw [e] at this
              exact (List.nodup_cons.1 (List.nodup_append.1 this).2.1).1 (List.mem_of_getLast? hc2)
          simp only [hnb, false_and, if_false, hlast]
          match j, hj with
          | 0, _ => simp [lkO, hup, hki]
          | 1, _ => simp [lkO, hdk]
          | 2, _ => simp [lkO, hdk]
          | 3, _ =>
            simp only [lkO, hup, if_neg hki, hk, hdn, if_pos, hdu]
            rw [q1, q2, prev_split hka, prev_split hka]
            simp
          | 4, _ =>
            simp only [lkO, hup, if_neg hki, hk, hdn, if_pos, hdu]
            rw [q1, q2, next_split hka, next_split hka]
            cases c <;> simp
        · obtain ⟨c, b, e⟩ := List.append_of_mem h1
          have hnb : l1.getLast? ≠ some k := fun e => (List.nodup_append.1 hnd).2.2 k (List.mem_of_getLast? e) k h1 rfl
          have hk1 : k ∉ l1 := fun h => (List.nodup_append.1 hnd).2.2 k h k h1 rfl
          have hkc : k ∉ c := fun ha => by
            have := (List.nodup_append.1 hnd).2.1
            rw [e] at this
            exact (List.nodup_append.1 this).2.2 k ha k (by simp) rfl
          have q1 : l1 ++ i :: l2 = (l1 ++ i :: c) ++ k :: b := by rw [e]; simp
          have q2 : l1 ++ l2 = (l1 ++ c) ++ k :: b := by rw [e]; simp
          have hhead : l2.head? = some k ↔ c = [] := by
            rw [e]
            cases c with
            | nil => simp
            | cons z c => simp; rintro rfl; exact hkc (by simp)
          simp only [hnb, false_and, if_false, hhead]
          have n1 : k ∉ l1 ++ i :: c := by simp; exact ⟨hk1, hki, hkc⟩
          have n2 : k ∉ l1 ++ c := by simp; exact ⟨hk1, hkc⟩
          match j, hj with
          | 0, _ => simp [lkO, hup, hki]
          | 1, _ => simp [lkO, hdk]
          | 2, _ => simp [lkO, hdk]
          | 3, _ =>
            simp only [lkO, hup, if_neg hki, hk, hdn, if_pos, hdu]
            rw [q1, q2, prev_split n1, prev_split n2]
            cases c with
            | nil => simp
            | cons z c => simp [List.getLast?_append, List.getLast?_cons]
          | 4, _ =>
            simp only [lkO, hup, if_neg hki, hk, hdn, if_pos, hdu]
            rw [q1, q2, next_split n1, next_split n2]
            simp
      · have hsib : dnOf (hng F i u l1.length) (upOf F k) = dnOf F (upOf F k) := by
          cases e : upOf F k with
          | none => rfl
          | some v => rw [hdn, if_neg (by rintro rfl; exact hk e)]
        have hnm : ∀ c, c ∈ y.down → c ≠ k := by
          rintro c hc rfl
          obtain ⟨z, hz, e, _⟩ := ok.dn u y hy c hc
          exact hk (by unfold upOf; rw [hz]; exact e)
        rw [if_neg (by rintro ⟨e, _⟩; exact hnm k (hf k e).1 rfl), if_neg (by rintro ⟨e, _⟩; exact hnm k (hb k e).1 rfl)]
        match j, hj with
        | 0, _ => simp [lkO, hup, hki]
        | 1, _ => simp [lkO, hdk]
        | 2, _ => simp [lkO, hdk]
        | 3, _ => simp only [lkO, hup, if_neg hki, hsib]
        | 4, _ => simp only [lkO, hup, if_neg hki, hsib]
theorem made_lt {F : For} {s g k : Nat} (h : k < F.length) : (Made F s g)[k]? = F[k]? := by unfold Made; rw [List.getElem?_append_left h]
theorem made_at {F : For} {s g : Nat} : (Made F s g)[F.length]? = some ⟨s, g, none, [], true⟩ := by unfold Made; simp
theorem made_len (F : For) (s g : Nat) : (Made F s g).length = F.length + 1 := by simp [Made]
theorem made_cases {F : For} {s g k : Nat} {x : FN} (h : (Made F s g)[k]? = some x) : F[k]? = some x ∧ k < F.length ∨ k = F.length ∧ x = ⟨s, g, none, [], true⟩ := by
  rcases Nat.lt_or_ge k F.length with h1 | h1
  · rw [made_lt h1] at h; exact .inl ⟨h, h1⟩
  · have h2 := (List.getElem?_eq_some_iff.1 h).1
    rw [made_len] at h2
    obtain rfl : k = F.length := by omega
    rw [made_at] at h
    cases h
    exact .inr ⟨rfl, rfl⟩
theorem mem_prev {l : List Nat} {k m : Nat} (h : prevOf l k = some m) : m ∈ l := by
  unfold prevOf at h
  split at h
  · cases h
  · exact List.mem_of_getElem? h
theorem mem_next {l : List Nat} {k m : Nat} (h : nextOf l k = some m) : m ∈ l := List.mem_of_getElem? h
theorem FOk.dn_lt {F : For} (h : FOk F) {o : Option Nat} {m : Nat} (hm : m ∈ dnOf F o) : m < F.length := by
  unfold dnOf at hm
  split at hm
  · rename_i x hx
    cases o with
    | none => cases hx
    | some u =>
      obtain ⟨z, hz, _⟩ := h.dn u x hx m hm
      exact (List.getElem?_eq_some_iff.1 hz).1
  · cases hm
theorem FOk.up_lt {F : For} (h : FOk F) {k m : Nat} (hm : upOf F k = some m) : m < F.length := by
  unfold upOf at hm
  obtain ⟨z, hz, e⟩ := Option.bind_eq_some_iff.1 hm
  obtain ⟨y, hy, _⟩ := h.upd k z m hz e
  exact (List.getElem?_eq_some_iff.1 hy).1
theorem FOk.lk_lt {F : For} (h : FOk F) {k j m : Nat} (hm : lkO F k j = some m) : m < F.length := by
  match j with
  | 0 => exact h.up_lt hm
  | 1 => exact h.dn_lt (List.mem_of_head? hm)
  | 2 => exact h.dn_lt (List.mem_of_getLast? hm)
  | 3 => exact h.dn_lt (mem_prev hm)
  | 4 => exact h.dn_lt (mem_next hm)
  | j + 5 => cases hm
theorem hd_made {F : For} {s g : Nat} {o : Option Nat} (h : ∀ m, o = some m → m < F.length) : hd (Made F s g) o = hd F o := by
  cases o with
  | none => rfl
  | some m => unfold hd; simp only [Option.bind_some]; rw [made_lt (h m rfl)]
theorem up_made {F : For} {s g k : Nat} (h : k < F.length) : upOf (Made F s g) k = upOf F k := by unfold upOf; rw [made_lt h]
theorem dn_made {F : For} {s g : Nat} {o : Option Nat} (h : ∀ m, o = some m → m < F.length) : dnOf (Made F s g) o = dnOf F o := by
  cases o with
  | none => rfl
  | some m => unfold dnOf; simp only [Option.bind_some]; rw [made_lt (h m rfl)]
theorem lk_made {F : For} (ok : FOk F) {s g k : Nat} (h : k < F.length) (j : Nat) : lkO (Made F s g) k j = lkO F k j := by
  have h1 := up_made (s := s) (g := g) h
  have h2 : dnOf (Made F s g) (some k) = dnOf F (some k) := dn_made (fun m hm => by cases hm; exact h)
  have h3 : dnOf (Made F s g) (upOf F k) = dnOf F (upOf F k) := dn_made (fun m hm => ok.up_lt hm)
  match j with
  | 0 => exact h1
  | 1 => simp only [lkO, h2]
  | 2 => simp only [lkO, h2]
  | 3 => simp only [lkO, h1, h3]
  | 4 => simp only [lkO, h1, h3]
  | j + 5 => rfl
theorem lk_new {F : For} (s g j : Nat) : lkO (Made F s g) F.length j = none := by
  have h1 : upOf (Made F s g) F.length = none := by unfold upOf; rw [made_at]; rfl
  have h2 : dnOf (Made F s g) (some F.length) = [] := by unfold dnOf; simp only [Option.bind_some]; rw [made_at]
  match j with
  | 0 => exact h1
  | 1 => simp only [lkO, h2]; rfl
  | 2 => simp only [lkO, h2]; rfl
  | 3 => simp only [lkO, h1]; rfl
  | 4 => simp only [lkO, h1]; rfl
  | j + 5 => rfl
def unlinkL (L : Nat → Nat → Option Nat) (i u : Nat) (f b : Option Nat) : Nat → Nat → Option Nat :=
  let L1 := match f with | none => updO L u 1 b | some f => updO L f 4 b
  let L2 := match b with | none => updO L1 u 2 f | some b => updO L1 b 3 f
  updO (updO (updO L2 i 0 none) i 3 none) i 4 none
theorem hd_cut {F : For} {i u : Nat} (hne : i ≠ u) (o : Option Nat) : hd (cutF F i u) o = hd F o := by
  cases o with
  | none => rfl
  | some k =>
    unfold hd
    simp only [Option.bind_some]
    rw [cutF_at hne]
    by_cases h1 : k = i
    · subst h1; rw [if_pos rfl]; cases F[k]? <;> rfl
    · rw [if_neg h1]
      by_cases h2 : k = u
      · subst h2; rw [if_pos rfl]; cases F[k]? <;> rfl
      · rw [if_neg h2]
theorem up_cut {F : For} {i u : Nat} {x : FN} (hx : F[i]? = some x) (hne : i ≠ u) (k : Nat) : upOf (cutF F i u) k = if k = i then none else upOf F k := by
  unfold upOf
  rw [cutF_at hne]
  by_cases h1 : k = i
  · subst h1; rw [if_pos rfl, if_pos rfl, hx]; rfl
  · rw [if_neg h1, if_neg h1]
    by_cases h2 : k = u
    · subst h2; rw [if_pos rfl]; cases F[k]? <;> rfl
    · rw [if_neg h2]
theorem dn_cut {F : For} {i u : Nat} {y : FN} (hy : F[u]? = some y) (hne : i ≠ u) (k : Nat) : dnOf (cutF F i u) (some k) = if k = u then y.down.filter (fun c => c != i) else dnOf F (some k) := by
  unfold dnOf
  simp only [Option.bind_some]
  rw [cutF_at hne]
  by_cases h1 : k = i
  · subst h1; rw [if_pos rfl, if_neg hne]; cases F[k]? <;> rfl
  · rw [if_neg h1]
    by_cases h2 : k = u
    · subst h2; rw [if_pos rfl, if_pos rfl, hy]; rfl
    · rw [if_neg h2, if_neg h2]
theorem filter_out {l1 l2 : List Nat} {i : Nat} (h : (l1 ++ i :: l2).Nodup) : (l1 ++ i :: l2).filter (fun c => c != i) = l1 ++ l2 := by
  have h0 := List.nodup_append.1 h
  have h1 : i ∉ l1 := fun hm => h0.2.2 i hm i (by simp) rfl
  have h2 : i ∉ l2 := (List.nodup_cons.1 h0.2.1).1
  rw [List.filter_append, List.filter_cons]
  have e1 : l1.filter (fun c => c != i) = l1 := List.filter_eq_self.2 (fun a ha => by simp; rintro rfl; exact h1 ha)
  have e2 : l2.filter (fun c => c != i) = l2 := List.filter_eq_self.2 (fun a ha => by simp; rintro rfl; exact h2 ha)
  simp [e1, e2]
theorem FOk.kidR {F : For} (h : FOk F) {k u : Nat} (hu : upOf F k = some u) : ∃ (y : FN), F[u]? = some y ∧ y.live = true ∧ k ∈ y.down := by
  unfold upOf at hu
  obtain ⟨z, hz, e⟩ := Option.bind_eq_some_iff.1 hu
  exact h.upd k z u hz e
theorem lk_cut {F : For} (ok : FOk F) {i u : Nat} {x y : FN} {l1 l2 : List Nat} (hx : F[i]? = some x) (hy : F[u]? = some y) (hxu : x.up = some u) (hl : y.down = l1 ++ i :: l2) (k j : Nat) (hj : j < 5) :
    lkO (cutF F i u) k j = unlinkL (lkO F) i u l1.getLast? l2.head? k j := by
  have hne := ok.up_ne hx hxu
  have hnd := ok.nd u y hy
  rw [hl] at hnd
  have hfil := filter_out hnd
  have h0 := List.nodup_append.1 hnd
  have hi1 : i ∉ l1 := fun hm => h0.2.2 i hm i (by simp) rfl
  have hi2 : i ∉ l2 := (List.nodup_cons.1 h0.2.1).1
  have hkid : ∀ c, c ∈ l1 ++ i :: l2 → upOf F c = some u ∧ c ≠ u := by
    intro c hc
    obtain ⟨z, hz, e, _⟩ := ok.dn u y hy c (by rw [hl]; exact hc)
    exact ⟨by unfold upOf; rw [hz]; exact e, ok.up_ne hz e⟩
  have hf : ∀ f, l1.getLast? = some f → f ∈ l1 ∧ f ≠ i ∧ f ≠ u := fun f hf => by
    have hm := List.mem_of_getLast? hf
    exact ⟨hm, by rintro rfl; exact hi1 hm, (hkid f (List.mem_append_left _ hm)).2⟩
  have hb : ∀ b, l2.head? = some b → b ∈ l2 ∧ b ≠ i ∧ b ≠ u := fun b hb => by
    have hm := List.mem_of_head? hb
    exact ⟨hm, by rintro rfl; exact hi2 hm, (hkid b (List.mem_append_right _ (List.mem_cons_of_mem _ hm))).2⟩
  have hup := fun k => up_cut hx hne k
  have hdn := fun k => dn_cut hy hne k
  rw [hl, hfil] at hdn
  have hdu : dnOf F (some u) = l1 ++ i :: l2 := by unfold dnOf; simp [hy, hl]
  by_cases hki : k = i
  · subst hki
    have hsib : dnOf (cutF F k u) (some k) = dnOf F (some k) := by rw [hdn, if_neg hne]
    have hL : ∀ L : Nat → Nat → Option Nat, updO (updO (updO L k 0 none) k 3 none) k 4 none k j = if j = 0 ∨ j = 3 ∨ j = 4 then none else L k j := by
      intro L; unfold updO; simp only [true_and]
      by_cases c4 : j = 4
      · simp [c4]
      · by_cases c3 : j = 3
        · simp [c3]
        · by_cases c0 : j = 0
          · simp [c0]
          · simp [c0, c3, c4]
    have e1 : ∀ L : Nat → Nat → Option Nat, ∀ f o, l1.getLast? = some f → updO L f 4 o k j = L k j := fun L f o h => updO_ne _ (.inl (Ne.symm (hf f h).2.1))
    have e2 : ∀ L : Nat → Nat → Option Nat, ∀ b o, l2.head? = some b → updO L b 3 o k j = L k j := fun L b o h => updO_ne _ (.inl (Ne.symm (hb b h).2.1))
    have e3 : ∀ (L : Nat → Nat → Option Nat) (m : Nat) (o : Option Nat), updO L u m o k j = L k j := fun L m o => updO_ne _ (.inl hne)
    have hU : unlinkL (lkO F) k u l1.getLast? l2.head? k j = if j = 0 ∨ j = 3 ∨ j = 4 then none else lkO F k j := by
      unfold unlinkL
      simp only [hL]
      cases hc : l1.getLast? with
      | none => cases hd : l2.head? with
        | none => simp only [e3]
        | some b => simp only [e2 _ b _ hd, e3]
      | some f => cases hd : l2.head? with
        | none => simp only [e1 _ f _ hc, e3]
        | some b => simp only [e2 _ b _ hd, e1 _ f _ hc]
    rw [hU]
    match j, hj with
    | 0, _ => simp [lkO, hup]
    | 1, _ => simp [lkO, hsib]
    | 2, _ => simp [lkO, hsib]
    | 3, _ => simp only [lkO, hup, if_pos]; simp [dnOf, prev_nil]
    | 4, _ => simp only [lkO, hup, if_pos]; simp [dnOf, next_nil]
  · have hL3 : ∀ (L : Nat → Nat → Option Nat) (m : Nat) (o : Option Nat), updO L i m o k j = L k j := fun L m o => updO_ne _ (.inl hki)
    by_cases hku : k = u
    · subst hku
      have e1 : ∀ L : Nat → Nat → Option Nat, ∀ f o, l1.getLast? = some f → updO L f 4 o k j = L k j := fun L f o h => updO_ne _ (.inl (Ne.symm (hf f h).2.2))
      have e2 : ∀ L : Nat → Nat → Option Nat, ∀ b o, l2.head? = some b → updO L b 3 o k j = L k j := fun L b o h => updO_ne _ (.inl (Ne.symm (hb b h).2.2))
      have hU : unlinkL (lkO F) i k l1.getLast? l2.head? k j = if j = 1 ∧ l1 = [] then l2.head? else if j = 2 ∧ l2 = [] then l1.getLast? else lkO F k j := by
        unfold unlinkL
        simp only [hL3]
        cases hc : l1.getLast? with
        | none =>
          have h1 : l1 = [] := List.getLast?_eq_none_iff.1 hc
          cases hd : l2.head? with
          | none =>
            have h2 : l2 = [] := List.head?_eq_none_iff.1 hd
            simp only [h1, h2, and_true]
            unfold updO
            simp only [true_and]
            by_cases j2 : j = 2
            · subst j2; simp
            · by_cases j1 : j = 1
              · subst j1; simp
              · simp [j1, j2]
          | some b =>
            have h2 : l2 ≠ [] := fun e => by rw [e] at hd; cases hd
            simp only [e2 _ b _ hd, h1, h2, and_true, and_false, if_false]
            unfold updO
            simp only [true_and]
        | some f =>
          have h1 : l1 ≠ [] := fun e => by rw [e] at hc; cases hc
          cases hd : l2.head? with
          | none =>
            have h2 : l2 = [] := List.head?_eq_none_iff.1 hd
            simp only [h1, h2, and_true, and_false, if_false]
            unfold updO
            simp only [true_and]
            by_cases j2 : j = 2
            · subst j2; simp
            · simp only [j2, if_false]
              rw [if_neg]
              rintro ⟨e, _⟩
              exact (hf f hc).2.2 e.symm
          | some b =>
            have h2 : l2 ≠ [] := fun e => by rw [e] at hd; cases hd
            simp only [e2 _ b _ hd, e1 _ f _ hc, h1, h2, and_false, if_false]
      rw [hU]
      have hpu : upOf F k ≠ some k := fun e => by
        have : y.up = some k := by unfold upOf at e; rw [hy] at e; exact e
        exact ok.up_ne hy this rfl
      have hsib : dnOf (cutF F i k) (upOf F k) = dnOf F (upOf F k) := by
        cases e : upOf F k with
        | none => rfl
        | some v => rw [hdn, if_neg (by rintro rfl; exact hpu e)]
      match j, hj with
      | 0, _ => simp [lkO, hup, hki]
      | 1, _ => simp only [lkO, hdn, if_pos, hdu]; cases l1 <;> simp
      | 2, _ =>
        simp only [lkO, hdn, if_pos, hdu]
        cases l2 with
        | nil => simp
        | cons b l2 => simp [List.getLast?_append, List.getLast?_cons]
      | 3, _ => simp only [lkO, hup, if_neg hki, hsib]; simp
      | 4, _ => simp only [lkO, hup, if_neg hki, hsib]; simp
    · have e3 : ∀ (L : Nat → Nat → Option Nat) (m : Nat) (o : Option Nat), updO L u m o k j = L k j := fun L m o => updO_ne _ (.inl hku)
      have hU : unlinkL (lkO F) i u l1.getLast? l2.head? k j = if l2.head? = some k ∧ j = 3 then l1.getLast? else if l1.getLast? = some k ∧ j = 4 then l2.head? else lkO F k j := by
        unfold unlinkL
        simp only [hL3]
        cases hc : l1.getLast? with
        | none =>
          cases hd : l2.head? with
          | none => simp [e3]
          | some b =>
            simp only [reduceCtorEq, false_and, if_false, Option.some.injEq]
            rw [show ∀ (L : Nat → Nat → Option Nat) (o : Option Nat), updO L b 3 o k j = if b = k ∧ j = 3 then o else L k j from fun L o => by unfold updO; simp only [eq_comm]]
            simp only [e3]
        | some f =>
          cases hd : l2.head? with
          | none =>
            simp only [e3]
            simp only [reduceCtorEq, false_and, if_false, Option.some.injEq]
            rw [show ∀ (L : Nat → Nat → Option Nat) (o : Option Nat), updO L f 4 o k j = if f = k ∧ j = 4 then o else L k j from fun L o => by unfold updO; simp only [eq_comm]]
          | some b =>
            simp only [Option.some.injEq]
            rw [show ∀ (L : Nat → Nat → Option Nat) (o o' : Option Nat), updO (updO L f 4 o) b 3 o' k j = if b = k ∧ j = 3 then o' else if f = k ∧ j = 4 then o else L k j from fun L o o' => by unfold updO; simp only [eq_comm]]
      rw [hU]
      have hdk : dnOf (cutF F i u) (some k) = dnOf F (some k) := by rw [hdn, if_neg hku]
      by_cases hk : upOf F k = some u
      · have hm : k ∈ l1 ++ i :: l2 := by
          obtain ⟨y', h1, _, h3⟩ := ok.kidR hk
          rw [hy] at h1; cases h1
          rw [hl] at h3; exact h3
        rcases List.mem_append.1 hm with h1 | h1
        · obtain ⟨a, c, e⟩ := List.append_of_mem h1
          have hnb : l2.head? ≠ some k := fun e => h0.2.2 k h1 k (List.mem_cons_of_mem _ (List.mem_of_head? e)) rfl
          have hka : k ∉ a := fun ha => by
            have := h0.1
            rw [e] at this
            exact (List.nodup_append.1 this).2.2 k ha k (by simp) rfl
          have q1 : l1 ++ l2 = a ++ k :: (c ++ l2) := by rw [e]; simp
          have q2 : l1 ++ i :: l2 = a ++ k :: (c ++ i :: l2) := by rw [e]; simp
          have hlast : l1.getLast? = some k ↔ c = [] := by
            rw [e]
            cases hc2 : c.getLast? with
            | none => have := List.getLast?_eq_none_iff.1 hc2; subst this; simp
            | some z =>
              have hcne : c ≠ [] := by rintro rfl; cases hc2
              rw [List.getLast?_append, List.getLast?_cons, hc2]
              simp only [Option.getD_some, Option.some_or, Option.some.injEq, hcne, iff_false]
              rintro rfl
              have := h0.1
              rw [e] at this
              exact (List.nodup_cons.1 (List.nodup_append.1 this).2.1).1 (List.mem_of_getLast? hc2)
          simp only [hnb, false_and, if_false, hlast]
          match j, hj with
          | 0, _ => simp [lkO, hup, hki]
          | 1, _ => simp [lkO, hdk]
          | 2, _ => simp [lkO, hdk]
          | 3, _ =>
            simp only [lkO, hup, if_neg hki, hk, hdn, if_pos, hdu]
            rw [q1, q2, prev_split hka, prev_split hka]
            simp
          | 4, _ =>
            simp only [lkO, hup, if_neg hki, hk, hdn, if_pos, hdu]
            rw [q1, q2, next_split hka, next_split hka]
            cases c <;> simp
        · have h1 : k ∈ l2 := by
            rcases List.mem_cons.1 h1 with h1 | h1
            · exact absurd h1 hki
            · exact h1
          obtain ⟨c, b, e⟩ := List.append_of_mem h1
          have hnb : l1.getLast? ≠ some k := fun e => h0.2.2 k (List.mem_of_getLast? e) k (List.mem_cons_of_mem _ h1) rfl
          have hk1 : k ∉ l1 := fun h => h0.2.2 k h k (List.mem_cons_of_mem _ h1) rfl
          have hkc : k ∉ c := fun ha => by
            have := (List.nodup_cons.1 h0.2.1).2
            rw [e] at this
            exact (List.nodup_append.1 this).2.2 k ha k (by simp) rfl
          have q1 : l1 ++ l2 = (l1 ++ c) ++ k :: b := by rw [e]; simp
          have q2 : l1 ++ i :: l2 = (l1 ++ i :: c) ++ k :: b := by rw [e]; simp
          have hhead : l2.head? = some k ↔ c = [] := by
            rw [e]
            cases c with
            | nil => simp
            | cons z c => simp; rintro rfl; exact hkc (by simp)
          simp only [hnb, false_and, if_false, hhead]
          have n1 : k ∉ l1 ++ i :: c := by simp; exact ⟨hk1, hki, hkc⟩
          have n2 : k ∉ l1 ++ c := by simp; exact ⟨hk1, hkc⟩
          match j, hj with
          | 0, _ => simp [lkO, hup, hki]
          | 1, _ => simp [lkO, hdk]
          | 2, _ => simp [lkO, hdk]
          | 3, _ =>
            simp only [lkO, hup, if_neg hki, hk, hdn, if_pos, hdu]
            rw [q1, q2, prev_split n1, prev_split n2]
            cases c with
            | nil => simp
            | cons z c => simp [List.getLast?_append, List.getLast?_cons]
          | 4, _ =>
            simp only [lkO, hup, if_neg hki, hk, hdn, if_pos, hdu]
            rw [q1, q2, next_split n1, next_split n2]
            simp
      · have hsib : dnOf (cutF F i u) (upOf F k) = dnOf F (upOf F k) := by
          cases e : upOf F k with
          | none => rfl
          | some v => rw [hdn, if_neg (by rintro rfl; exact hk e)]
        rw [if_neg (by rintro ⟨e, _⟩; exact hk (hkid k (List.mem_append_right _ (List.mem_cons_of_mem _ (hb k e).1))).1), if_neg (by rintro ⟨e, _⟩; exact hk (hkid k (List.mem_append_left _ (hf k e).1)).1)]
        match j, hj with
        | 0, _ => simp [lkO, hup, hki]
        | 1, _ => simp [lkO, hdk]
        | 2, _ => simp [lkO, hdk]
        | 3, _ => simp only [lkO, hup, if_neg hki, hsib]
        | 4, _ => simp only [lkO, hup, if_neg hki, hsib]
theorem kill_links (F : For) (i k j : Nat) : lkO (Kill F i) k j = lkO F k j := by
  have hu : ∀ k, upOf (Kill F i) k = upOf F k := by
    intro k; unfold upOf; rw [kill_at]
    by_cases h : k = i
    · subst h; rw [if_pos rfl]; cases F[k]? <;> rfl
    · rw [if_neg h]
  have hd : ∀ o, dnOf (Kill F i) o = dnOf F o := by
    intro o
    cases o with
    | none => rfl
    | some k =>
      unfold dnOf; simp only [Option.bind_some]; rw [kill_at]
      by_cases h : k = i
      · subst h; rw [if_pos rfl]; cases F[k]? <;> rfl
      · rw [if_neg h]
  match j with
  | 0 => exact hu k
  | 1 => simp only [lkO, hd]
  | 2 => simp only [lkO, hd]
  | 3 => simp only [lkO, hd, hu]
  | 4 => simp only [lkO, hd, hu]
  | j + 5 => rfl
theorem hd_kill (F : For) (i : Nat) (o : Option Nat) : hd (Kill F i) o = hd F o := by
  cases o with
  | none => rfl
  | some k =>
    unfold hd; simp only [Option.bind_some]; rw [kill_at]
    by_cases h : k = i
    · subst h; rw [if_pos rfl]; cases F[k]? <;> rfl
    · rw [if_neg h]
def pre (F : For) : Nat → Nat → List Nat
  | 0, k => [k]
  | n + 1, k => k :: (dnOf F (some k)).flatMap (pre F n)
def preD (F : For) (k : Nat) : List Nat := pre F F.length k
theorem FOk.kid_up {F : For} (h : FOk F) {k c : Nat} (hc : c ∈ dnOf F (some k)) : upOf F c = some k ∧ c < F.length := by
  unfold dnOf at hc
  simp only [Option.bind_some] at hc
  cases hk : F[k]? with
  | none => rw [hk] at hc; cases hc
  | some y =>
    rw [hk] at hc
    obtain ⟨x, hx, hu, _⟩ := h.dn k y hk c hc
    exact ⟨by unfold upOf; rw [hx]; exact hu, (List.getElem?_eq_some_iff.1 hx).1⟩
theorem Chain.kid {F : For} {k c : Nat} {l : List Nat} (h : Chain F k l) (hu : upOf F c = some k) : Chain F c (c :: l) := by
  unfold upOf at hu
  obtain ⟨x, hx, e⟩ := Option.bind_eq_some_iff.1 hu
  exact .up hx e h
theorem flatMap_cg {l : List Nat} {f g : Nat → List Nat} (h : ∀ c ∈ l, f c = g c) : l.flatMap f = l.flatMap g := by
  induction l with
  | nil => rfl
  | cons x l ih => rw [List.flatMap_cons, List.flatMap_cons, h x (by simp), ih (fun c hc => h c (List.mem_cons_of_mem _ hc))]
theorem pre_stable {F : For} (ok : FOk F) : ∀ (n k : Nat) (l : List Nat), Chain F k l → F.length ≤ n + l.length → pre F n k = pre F (n + 1) k := by
  intro n
  induction n with
  | zero =>
    intro k l hc hl
    show [k] = k :: (dnOf F (some k)).flatMap (pre F 0)
    have : dnOf F (some k) = [] := by
      cases e : dnOf F (some k) with
      | nil => rfl
      | cons c t =>
        have h1 := hc.kid (ok.kid_up (k := k) (c := c) (by rw [e]; simp)).1
        have := h1.len
        simp at this hl
        omega
    rw [this]; rfl
  | succ n ih =>
    intro k l hc hl
    show k :: (dnOf F (some k)).flatMap (pre F n) = k :: (dnOf F (some k)).flatMap (pre F (n + 1))
    congr 1
    refine flatMap_cg (fun c hm => ?_)
    exact ih c (c :: l) (hc.kid (ok.kid_up hm).1) (by simp; omega)
theorem preD_eq {F : For} (ok : FOk F) {k : Nat} (hk : k < F.length) : preD F k = k :: (dnOf F (some k)).flatMap (preD F) := by
  obtain ⟨l, hl⟩ := ok.acyc k _ (List.getElem?_eq_getElem hk)
  unfold preD
  exact pre_stable ok _ k l hl (by omega)
theorem FOk.kids_ind {F : For} (ok : FOk F) {P : Nat → Prop} (h : ∀ k, k < F.length → (∀ c ∈ dnOf F (some k), P c) → P k) : ∀ k, k < F.length → P k := by
  have : ∀ n k l, Chain F k l → F.length ≤ n + l.length → P k := by
    intro n
    induction n with
    | zero =>
      intro k l hc hl
      refine h k (hc.mem_lt k (by obtain ⟨t, ht⟩ := hc.ne_nil; rw [ht]; simp)) (fun c hm => ?_)
      have h1 := (hc.kid (ok.kid_up hm).1).len
      simp at h1 hl
      omega
    | succ n ih =>
      intro k l hc hl
      refine h k (hc.mem_lt k (by obtain ⟨t, ht⟩ := hc.ne_nil; rw [ht]; simp)) (fun c hm => ?_)
      exact ih c (c :: l) (hc.kid (ok.kid_up hm).1) (by simp; omega)
  intro k hk
  obtain ⟨l, hl⟩ := ok.acyc k _ (List.getElem?_eq_getElem hk)
  exact this F.length k l hl (by omega)
theorem preD_self {F : For} (ok : FOk F) {k : Nat} (hk : k < F.length) : k ∈ preD F k := by rw [preD_eq ok hk]; simp
theorem preD_lt {F : For} (ok : FOk F) {k m : Nat} (hk : k < F.length) : m ∈ preD F k → m < F.length := by
  refine ok.kids_ind (P := fun k => m ∈ preD F k → m < F.length) (fun k hk ih hm => ?_) k hk
  rw [preD_eq ok hk] at hm
  rcases List.mem_cons.1 hm with rfl | hm
  · exact hk
  · obtain ⟨c, hc, hm⟩ := List.mem_flatMap.1 hm
    exact ih c hc hm
theorem mem_preD {F : For} (ok : FOk F) {k m : Nat} {l : List Nat} (hk : k < F.length) (hl : Chain F m l) : m ∈ preD F k ↔ k ∈ l := by
  constructor
  · revert m l
    refine ok.kids_ind (P := fun k => ∀ {m l}, Chain F m l → m ∈ preD F k → k ∈ l) (fun k hk ih m l hl hm => ?_) k hk
    rw [preD_eq ok hk] at hm
    rcases List.mem_cons.1 hm with rfl | hm
    · obtain ⟨t, ht⟩ := hl.ne_nil; rw [ht]; simp
    · obtain ⟨c, hc, hm⟩ := List.mem_flatMap.1 hm
      have h1 := ih c hc hl hm
      obtain ⟨a, b, e⟩ := List.append_of_mem h1
      have h2 := hl.at e
      obtain ⟨hu, _⟩ := ok.kid_up hc
      unfold upOf at hu
      obtain ⟨x, hx, eu⟩ := Option.bind_eq_some_iff.1 hu
      cases h2 with
      | root hx' hu' => rw [hx] at hx'; cases hx'; rw [eu] at hu'; cases hu'
      | up hx' hu' hc' =>
        rw [hx] at hx'; cases hx'; rw [eu] at hu'; cases hu'
        obtain ⟨t, ht⟩ := hc'.ne_nil
        rw [e, ht]; simp
  · intro hm
    have key : ∀ {m : Nat} {l : List Nat}, Chain F m l → k ∈ l → m ∈ preD F k := by
      intro m l h
      induction h with
      | @root m x hx hu => intro hm; simp at hm; subst hm; exact preD_self ok hk
      | @up m u x l hx hu hc ih =>
        intro hm
        rcases List.mem_cons.1 hm with rfl | hm
        · exact preD_self ok hk
        · have h1 := ih hm
          -- u is beneath k; m is a child of u
          have hcu : m ∈ dnOf F (some u) := by
            obtain ⟨y, hy, _, h3⟩ := ok.upd m x u hx hu
            unfold dnOf; simp [hy]; exact h3
          have hul : u < F.length := preD_lt ok hk h1
          have : ∀ k, k < F.length → u ∈ preD F k → m ∈ preD F k := by
            refine ok.kids_ind (fun k hk ih hm => ?_)
            rw [preD_eq ok hk] at hm ⊢
            rcases List.mem_cons.1 hm with rfl | hm
            · exact List.mem_cons_of_mem _ (List.mem_flatMap.2 ⟨m, hcu, preD_self ok (ok.kid_up hcu).2⟩)
            · obtain ⟨c, hc, hm⟩ := List.mem_flatMap.1 hm
              exact List.mem_cons_of_mem _ (List.mem_flatMap.2 ⟨c, hc, ih c hc hm⟩)
          exact this k hk h1
    exact key hl hm
def Ahead (l : List Nat) (a b : Nat) : Prop := ∃ x y z, l = x ++ a :: y ++ b :: z
theorem Ahead.amid {l : List Nat} {a b : Nat} (h : Ahead l a b) (p q : List Nat) : Ahead (p ++ l ++ q) a b := by
  obtain ⟨x, y, z, rfl⟩ := h
  exact ⟨p ++ x, y, z ++ q, by simp⟩
theorem Ahead.of_parts {p q r s t : List Nat} {a b : Nat} (ha : a ∈ q) (hb : b ∈ s) : Ahead (p ++ q ++ r ++ s ++ t) a b := by
  obtain ⟨x, y, rfl⟩ := List.append_of_mem ha
  obtain ⟨u, v, rfl⟩ := List.append_of_mem hb
  exact ⟨p ++ x, y ++ r ++ u, v ++ t, by simp⟩
theorem Ahead.idx {l : List Nat} {a b : Nat} (h : Ahead l a b) (hn : l.Nodup) : l.idxOf a < l.idxOf b := by
  obtain ⟨x, y, z, rfl⟩ := h
  have h0 := List.nodup_append.1 hn
  have h1 := List.nodup_append.1 h0.1
  have ha : a ∉ x := fun hm => h1.2.2 a hm a (by simp) rfl
  have hb : b ∉ x ++ a :: y := fun hm => h0.2.2 b hm b (by simp) rfl
  rw [idx_split hb]
  have : x ++ a :: y ++ b :: z = x ++ a :: (y ++ b :: z) := by simp
  rw [this, idx_split ha]
  simp
theorem preD_infix {F : For} (ok : FOk F) {v : Nat} (hv : v < F.length) : ∀ k, k < F.length → v ∈ preD F k → ∃ p q, preD F k = p ++ preD F v ++ q := by
  refine ok.kids_ind (fun k hk ih hm => ?_)
  by_cases e : v = k
  · subst e; exact ⟨[], [], by simp⟩
  · rw [preD_eq ok hk] at hm ⊢
    rcases List.mem_cons.1 hm with h1 | hm
    · exact absurd h1 e
    · obtain ⟨c, hc, hm⟩ := List.mem_flatMap.1 hm
      obtain ⟨p, q, h2⟩ := ih c hc hm
      obtain ⟨l1, l2, h3⟩ := List.append_of_mem hc
      refine ⟨k :: l1.flatMap (preD F) ++ p, q ++ l2.flatMap (preD F), ?_⟩
      rw [h3, List.flatMap_append, List.flatMap_cons, h2]
      simp
theorem preD_nodup {F : For} (ok : FOk F) : ∀ k, k < F.length → (preD F k).Nodup := by
  refine ok.kids_ind (fun k hk ih => ?_)
  rw [preD_eq ok hk]
  obtain ⟨lk, hlk⟩ := ok.acyc k _ (List.getElem?_eq_getElem hk)
  refine List.nodup_cons.2 ⟨fun hm => ?_, ?_⟩
  · obtain ⟨c, hc, hm⟩ := List.mem_flatMap.1 hm
    have h1 := (mem_preD ok (ok.kid_up hc).2 hlk).1 hm
    have h2 := (hlk.kid (ok.kid_up hc).1).nodup
    exact (List.nodup_cons.1 h2).1 h1
  · have hnd : (dnOf F (some k)).Nodup := by
      unfold dnOf
      simp only [Option.bind_some]
      cases hy : F[k]? with
      | none => exact List.nodup_nil
      | some y => exact ok.nd k y hy
    have hkid : ∀ c ∈ dnOf F (some k), upOf F c = some k ∧ c < F.length := fun c hc => ok.kid_up hc
    revert ih hnd hkid
    generalize dnOf F (some k) = cs
    intro ih hnd hkid
    induction cs with
    | nil => simp
    | cons c cs ihc =>
      rw [List.flatMap_cons]
      have h1 := List.nodup_cons.1 hnd
      refine List.nodup_append.2 ⟨ih c (by simp), ihc (fun d hd => ih d (List.mem_cons_of_mem _ hd)) h1.2 (fun d hd => hkid d (List.mem_cons_of_mem _ hd)), ?_⟩
      rintro m hm m' hm' rfl
      obtain ⟨d, hd, hm'⟩ := List.mem_flatMap.1 hm'
      have hcl := (hkid c (by simp)).2
      have hdl := (hkid d (List.mem_cons_of_mem _ hd)).2
      have hml := preD_lt ok hcl hm
      obtain ⟨l, hl⟩ := ok.acyc m _ (List.getElem?_eq_getElem hml)
      have e1 := (mem_preD ok hcl hl).1 hm
      have e2 := (mem_preD ok hdl hl).1 hm'
      -- both on one way: their rests are one, so they are one
      obtain ⟨a, b, ea⟩ := List.append_of_mem e1
      obtain ⟨a', b', eb⟩ := List.append_of_mem e2
      have k1 := hl.at ea
      have k2 := hl.at eb
      have c1 := k1.det (hlk.kid (hkid c (by simp)).1)
      have c2 := k2.det (hlk.kid (hkid d (List.mem_cons_of_mem _ hd)).1)
      simp at c1 c2
      subst c1 c2
      rw [ea] at eb
      have hlen : a.length = a'.length := by have := congrArg List.length eb; simp at this; omega
      have := (List.append_inj eb hlen).2
      simp at this
      exact h1.1 (this ▸ hd)
inductive All2 {α β : Type} (R : α → β → Prop) : List α → List β → Prop
  | nil : All2 R [] []
  | cons {x : α} {y : β} {l : List α} {m : List β} : R x y → All2 R l m → All2 R (x :: l) (y :: m)
theorem All2.len {α β : Type} {R : α → β → Prop} {l : List α} {m : List β} (h : All2 R l m) : l.length = m.length := by
  induction h with
  | nil => rfl
  | cons _ _ ih => simp [ih]
theorem All2.imp {α β : Type} {R S : α → β → Prop} {l : List α} {m : List β} (h : All2 R l m) (hi : ∀ x ∈ l, ∀ y ∈ m, R x y → S x y) : All2 S l m := by
  induction h with
  | nil => exact .nil
  | cons h1 _ ih => exact .cons (hi _ (by simp) _ (by simp) h1) (ih (fun x hx y hy => hi x (List.mem_cons_of_mem _ hx) y (List.mem_cons_of_mem _ hy)))
theorem All2.app {α β : Type} {R : α → β → Prop} {l l' : List α} {m m' : List β} (h : All2 R l m) (h' : All2 R l' m') : All2 R (l ++ l') (m ++ m') := by
  induction h with
  | nil => exact h'
  | cons h1 _ ih => exact .cons h1 ih
theorem All2.get {α β : Type} {R : α → β → Prop} {l : List α} {m : List β} (h : All2 R l m) : ∀ {i : Nat} {x : α} {y : β}, l[i]? = some x → m[i]? = some y → R x y := by
  induction h with
  | nil => intro i x y hx _; simp at hx
  | cons h1 _ ih =>
    intro i x y hx hy
    cases i with
    | zero => simp at hx hy; subst hx hy; exact h1
    | succ i => simp at hx hy; exact ih hx hy
theorem All2.of_get {α β : Type} {R : α → β → Prop} : ∀ {l : List α} {m : List β}, l.length = m.length → (∀ (i : Nat) (x : α) (y : β), l[i]? = some x → m[i]? = some y → R x y) → All2 R l m := by
  intro l
  induction l with
  | nil => intro m h _; cases m with
    | nil => exact .nil
    | cons y m => simp at h
  | cons x l ih => intro m h hi; cases m with
    | nil => simp at h
    | cons y m => exact .cons (hi 0 x y rfl rfl) (ih (by simpa using h) (fun i a b ha hb => hi (i + 1) a b (by simpa using ha) (by simpa using hb)))
noncomputable def dep (F : For) (k : Nat) : Nat := open Classical in if h : ∃ l, Chain F k l then (Classical.choose h).length else 0
theorem dep_of {F : For} {k : Nat} {l : List Nat} (h : Chain F k l) : dep F k = l.length := by
  have hx : ∃ l, Chain F k l := ⟨l, h⟩
  unfold dep
  rw [dif_pos hx, (Classical.choose_spec hx).det h]
theorem dep_kid {F : For} (ok : FOk F) {k c : Nat} (hc : c ∈ dnOf F (some k)) (hk : k < F.length) : dep F c = dep F k + 1 := by
  obtain ⟨l, hl⟩ := ok.acyc k _ (List.getElem?_eq_getElem hk)
  rw [dep_of hl, dep_of (hl.kid (ok.kid_up hc).1)]; rfl
theorem dep_under {F : For} (ok : FOk F) {k m : Nat} (hk : k < F.length) (hm : m ∈ preD F k) : dep F k ≤ dep F m ∧ (m ≠ k → dep F k < dep F m) := by
  have hml := preD_lt ok hk hm
  obtain ⟨l, hl⟩ := ok.acyc m _ (List.getElem?_eq_getElem hml)
  have h1 := (mem_preD ok hk hl).1 hm
  obtain ⟨p, q, e⟩ := List.append_of_mem h1
  have h2 := hl.at e
  rw [dep_of h2, dep_of hl, e]
  refine ⟨by simp, fun hne => ?_⟩
  cases p with
  | nil =>
    obtain ⟨t, ht⟩ := hl.ne_nil
    rw [e] at ht
    simp at ht
    exact absurd ht.1.symm hne
  | cons x p => simp; omega
theorem dep_idx {F : For} {k m : Nat} {l p q : List Nat} (hl : Chain F m l) (e : l = p ++ k :: q) : dep F m = dep F k + p.length := by
  rw [dep_of hl, dep_of (hl.at e), e]; simp; omega
theorem All2.parse {R : Nat → Nat → Prop} {f g : Nat → Nat} {d e : Nat} (hR : ∀ x y, R x y → f x + e = g y + d) : ∀ {t t' r r' : List Nat}, (∀ x ∈ t, d < f x) → (∀ y ∈ t', e < g y) → (∀ x, r.head? = some x → f x ≤ d) → (∀ y, r'.head? = some y → g y ≤ e) → All2 R (t ++ r) (t' ++ r') → All2 R t t' ∧ All2 R r r' := by
  intro t
  induction t with
  | nil =>
    intro t' r r' _ h2 h3 _ h
    cases t' with
    | nil => exact ⟨.nil, h⟩
    | cons y t' =>
      rw [List.nil_append, List.cons_append] at h
      cases h with
      | @cons x _ _ _ hxy _ =>
        have := hR _ _ hxy
        have := h2 y (by simp)
        have := h3 x rfl
        omega
  | cons x t ih =>
    intro t' r r' h1 h2 h3 h4 h
    cases t' with
    | nil =>
      rw [List.nil_append, List.cons_append] at h
      cases h with
      | @cons _ y _ _ hxy _ =>
        have := hR _ _ hxy
        have := h1 x (by simp)
        have := h4 y rfl
        omega
    | cons y t' =>
      rw [List.cons_append, List.cons_append] at h
      cases h with
      | cons hxy hr =>
        obtain ⟨i1, i2⟩ := ih (fun x hx => h1 x (List.mem_cons_of_mem _ hx)) (fun y hy => h2 y (List.mem_cons_of_mem _ hy)) h3 h4 hr
        exact ⟨.cons hxy i1, i2⟩
def eqN (F : For) (L : Nat → Nat → Bool) : Nat → Nat → Nat → Bool
  | 0, a, b => L a b && decide ((dnOf F (some a)).length = (dnOf F (some b)).length)
  | n + 1, a, b => L a b && decide ((dnOf F (some a)).length = (dnOf F (some b)).length) && ((dnOf F (some a)).zip (dnOf F (some b))).all (fun p => eqN F L n p.1 p.2)
def eqD (F : For) (L : Nat → Nat → Bool) (a b : Nat) : Bool := eqN F L F.length a b
theorem all_cg {α : Type} {l : List α} {f g : α → Bool} (h : ∀ x ∈ l, f x = g x) : l.all f = l.all g := by
  induction l with
  | nil => rfl
  | cons x l ih => rw [List.all_cons, List.all_cons, h x (by simp), ih (fun c hc => h c (List.mem_cons_of_mem _ hc))]
theorem eqN_stable {F : For} (ok : FOk F) {L : Nat → Nat → Bool} : ∀ (n a b : Nat) (l : List Nat), Chain F a l → F.length ≤ n + l.length → eqN F L n a b = eqN F L (n + 1) a b := by
  intro n
  induction n with
  | zero =>
    intro a b l hc hl
    have : dnOf F (some a) = [] := by
      cases e : dnOf F (some a) with
      | nil => rfl
      | cons c t =>
        have h1 := hc.kid (ok.kid_up (k := a) (c := c) (by rw [e]; simp)).1
        have := h1.len
        simp at this hl
        omega
    show (L a b && _) = (L a b && _ && ((dnOf F (some a)).zip (dnOf F (some b))).all _)
    rw [this]; simp
  | succ n ih =>
    intro a b l hc hl
    show (L a b && _ && ((dnOf F (some a)).zip (dnOf F (some b))).all _) = (L a b && _ && ((dnOf F (some a)).zip (dnOf F (some b))).all _)
    congr 1
    refine all_cg (fun p hp => ?_)
    have hm := (List.of_mem_zip (a := p.1) (b := p.2) hp).1
    exact ih p.1 p.2 (p.1 :: l) (hc.kid (ok.kid_up hm).1) (by simp; omega)
theorem eqD_eq {F : For} (ok : FOk F) {L : Nat → Nat → Bool} {a b : Nat} (hk : a < F.length) : eqD F L a b = (L a b && decide ((dnOf F (some a)).length = (dnOf F (some b)).length) && ((dnOf F (some a)).zip (dnOf F (some b))).all (fun p => eqD F L p.1 p.2)) := by
  obtain ⟨l, hl⟩ := ok.acyc a _ (List.getElem?_eq_getElem hk)
  unfold eqD
  exact eqN_stable ok _ a b l hl (by omega)
theorem all_zip {P : Nat → Nat → Bool} : ∀ {A B : List Nat}, (A.length = B.length ∧ (A.zip B).all (fun p => P p.1 p.2) = true) ↔ All2 (fun x y => P x y = true) A B := by
  intro A
  induction A with
  | nil => intro B; cases B with
    | nil => exact ⟨fun _ => .nil, fun _ => ⟨rfl, rfl⟩⟩
    | cons y B => exact ⟨fun h => by simp at h, fun h => by cases h⟩
  | cons x A ih => intro B; cases B with
    | nil => exact ⟨fun h => by simp at h, fun h => by cases h⟩
    | cons y B =>
      constructor
      · intro h
        rw [List.zip_cons_cons, List.all_cons] at h
        simp at h
        exact .cons h.2.1 (ih.1 ⟨h.1, by simpa using h.2.2⟩)
      · intro h
        cases h with
        | cons h1 h2 =>
          have := ih.2 h2
          rw [List.zip_cons_cons, List.all_cons]
          exact ⟨by simp [this.1], by rw [this.2]; simp [h1]⟩
def Side (F : For) (L : Nat → Nat → Bool) (d e : Nat) (x y : Nat) : Prop := L x y = true ∧ dep F x + e = dep F y + d
theorem flat_side {F : For} (ok : FOk F) {L : Nat → Nat → Bool} {d e : Nat} : ∀ {A B : List Nat}, (∀ c ∈ A, c < F.length ∧ dep F c = d + 1) → (∀ c ∈ B, c < F.length ∧ dep F c = e + 1) → All2 (Side F L d e) (A.flatMap (preD F)) (B.flatMap (preD F)) → All2 (fun c c' => All2 (Side F L d e) (preD F c) (preD F c')) A B := by
  intro A
  induction A with
  | nil => intro B _ hB h; cases B with
    | nil => exact .nil
    | cons y B =>
      rw [List.flatMap_cons, preD_eq ok (hB y (by simp)).1] at h
      cases h
  | cons x A ih => intro B hA hB h; cases B with
    | nil =>
      rw [List.flatMap_cons, preD_eq ok (hA x (by simp)).1] at h
      cases h
    | cons y B =>
      have hx := hA x (by simp)
      have hy := hB y (by simp)
      rw [List.flatMap_cons, List.flatMap_cons] at h
      have hex := preD_eq ok hx.1
      have hey := preD_eq ok hy.1
      have hnx := preD_nodup ok x hx.1
      have hny := preD_nodup ok y hy.1
      have ux : ∀ m ∈ (dnOf F (some x)).flatMap (preD F), d + 1 < dep F m := fun m hm => by
        have := (dep_under ok hx.1 (m := m) (by rw [hex]; exact List.mem_cons_of_mem _ hm)).2 (fun e => by
          rw [hex] at hnx; subst e; exact (List.nodup_cons.1 hnx).1 hm)
        omega
      have uy : ∀ m ∈ (dnOf F (some y)).flatMap (preD F), e + 1 < dep F m := fun m hm => by
        have := (dep_under ok hy.1 (m := m) (by rw [hey]; exact List.mem_cons_of_mem _ hm)).2 (fun e => by
          rw [hey] at hny; subst e; exact (List.nodup_cons.1 hny).1 hm)
        omega
      have hd : ∀ {z : Nat} {C : List Nat}, (∀ c ∈ C, c < F.length ∧ dep F c = z + 1) → ∀ m, (C.flatMap (preD F)).head? = some m → dep F m ≤ z + 1 := by
        intro z C hC m hm
        cases C with
        | nil => cases hm
        | cons c C =>
          have hc := hC c (by simp)
          rw [List.flatMap_cons, preD_eq ok hc.1] at hm
          injection hm with hm
          subst hm
          omega
      rw [hex, hey, List.cons_append, List.cons_append] at h
      cases h with
      | cons h1 h2 =>
        obtain ⟨i1, i2⟩ := All2.parse (f := dep F) (g := dep F) (d := d + 1) (e := e + 1) (fun x y h => by have := h.2; omega) ux uy (hd (fun c hc => hA c (List.mem_cons_of_mem _ hc))) (hd (fun c hc => hB c (List.mem_cons_of_mem _ hc))) h2
        exact .cons (by rw [hex, hey]; exact .cons h1 i1) (ih (fun c hc => hA c (List.mem_cons_of_mem _ hc)) (fun c hc => hB c (List.mem_cons_of_mem _ hc)) i2)
theorem All2.flat {R : Nat → Nat → Prop} {f : Nat → List Nat} {A B : List Nat} (h : All2 (fun c c' => All2 R (f c) (f c')) A B) : All2 R (A.flatMap f) (B.flatMap f) := by
  induction h with
  | nil => exact .nil
  | cons h1 _ ih => rw [List.flatMap_cons, List.flatMap_cons]; exact h1.app ih
theorem eqD_side {F : For} (ok : FOk F) {L : Nat → Nat → Bool} : ∀ a, a < F.length → ∀ b, b < F.length → (eqD F L a b = true ↔ All2 (Side F L (dep F a) (dep F b)) (preD F a) (preD F b)) := by
  refine ok.kids_ind (fun a ha ih b hb => ?_)
  rw [eqD_eq ok ha, preD_eq ok ha, preD_eq ok hb]
  have key : All2 (fun x y => eqD F L x y = true) (dnOf F (some a)) (dnOf F (some b)) ↔ All2 (Side F L (dep F a) (dep F b)) ((dnOf F (some a)).flatMap (preD F)) ((dnOf F (some b)).flatMap (preD F)) := by
    have hs : ∀ c ∈ dnOf F (some a), ∀ c' ∈ dnOf F (some b), (eqD F L c c' = true ↔ All2 (Side F L (dep F a) (dep F b)) (preD F c) (preD F c')) := by
      intro c hc c' hc'
      rw [ih c hc c' (ok.kid_up hc').2, dep_kid ok hc ha, dep_kid ok hc' hb]
      exact ⟨fun h => h.imp (fun x _ y _ hxy => ⟨hxy.1, by have := hxy.2; omega⟩), fun h => h.imp (fun x _ y _ hxy => ⟨hxy.1, by have := hxy.2; omega⟩)⟩
    constructor
    · intro h
      exact All2.flat (h.imp (fun c hc c' hc' h => (hs c hc c' hc').1 h))
    · intro h
      exact (flat_side ok (fun c hc => ⟨(ok.kid_up hc).2, dep_kid ok hc ha⟩) (fun c hc => ⟨(ok.kid_up hc).2, dep_kid ok hc hb⟩) h).imp (fun c hc c' hc' h => (hs c hc c' hc').2 h)
  constructor
  · intro h
    simp only [Bool.and_eq_true, decide_eq_true_eq] at h
    exact .cons ⟨h.1.1, by omega⟩ (key.1 (all_zip.1 ⟨h.1.2, h.2⟩))
  · intro h
    cases h with
    | cons h1 h2 =>
      have := all_zip.2 (key.2 h2)
      simp only [Bool.and_eq_true, decide_eq_true_eq]
      exact ⟨⟨h1.1, this.1⟩, this.2⟩
theorem eqD_fails {F : For} (ok : FOk F) {L : Nat → Nat → Bool} {a b i x y : Nat} (ha : a < F.length) (hb : b < F.length) (hx : (preD F a)[i]? = some x) (hy : (preD F b)[i]? = some y) (hn : ¬ Side F L (dep F a) (dep F b) x y) : eqD F L a b = false := by
  cases e : eqD F L a b with
  | false => rfl
  | true => exact absurd (((eqD_side ok a ha b hb).1 e).get hx hy) hn
theorem eqD_ends {F : For} (ok : FOk F) {L : Nat → Nat → Bool} {a b n : Nat} (ha : a < F.length) (hb : b < F.length) (hs : ∀ i x y, i < n → (preD F a)[i]? = some x → (preD F b)[i]? = some y → Side F L (dep F a) (dep F b) x y) (h : (preD F a).length = n ∨ (preD F b).length = n) : eqD F L a b = decide ((preD F a).length = (preD F b).length) := by
  by_cases hl : (preD F a).length = (preD F b).length
  · rw [decide_eq_true hl]
    refine (eqD_side ok a ha b hb).2 (All2.of_get hl (fun i x y hx hy => hs i x y ?_ hx hy))
    have := (List.getElem?_eq_some_iff.1 hx).1
    omega
  · rw [decide_eq_false hl]
    cases e : eqD F L a b with
    | false => rfl
    | true => exact absurd ((eqD_side ok a ha b hb).1 e).len hl
end Go.Proofs.YtelhnaphkbpakaaDoor
namespace Go.Proofs.YtelhnaphkbpakaaDoor
open Go.RowKit
set_option linter.unusedVariables false
structure Ar where
  S : Nat
  G : Nat
  all : List (Nat × Bool × List Value)
  free : List Nat
  count : Nat
  ret : Nat
def scells (l : List (Nat × Bool × List Value)) : List Value := l.flatMap fun s => .int .u32 (s.1 : Int) :: .bool s.2.1 :: s.2.2
def fcells (l : List Nat) : List Value := l.map fun (k : Nat) => Value.int .u32 (k : Int)
structure Ar.Ok (A : Ar) (m : Nat) : Prop where
  S1 : 1 ≤ A.S
  S2 : A.S ≤ 2147483647
  G1 : 1 ≤ A.G
  G2 : A.G ≤ 4294967295
  len : A.all.length ≤ A.S
  gen : ∀ s ∈ A.all, 1 ≤ s.1 ∧ s.1 ≤ A.G
  thing : ∀ s ∈ A.all, s.2.2.length = m
  free : ∀ f ∈ A.free, ∃ g t, A.all[f]? = some (g, false, t) ∧ g < A.G
  nodup : A.free.Nodup
  cnt : A.count = A.all.countP (fun s => s.2.1)
  sum : A.count + A.ret + A.free.length = A.all.length
theorem scells_length {m : Nat} : ∀ {l : List (Nat × Bool × List Value)}, (∀ s ∈ l, s.2.2.length = m) → (scells l).length = l.length * (m + 2)
  | [], _ => by simp [scells]
  | s :: l, h => by
    have ih := scells_length (l := l) fun s hs => h s (List.mem_cons_of_mem _ hs)
    have h1 := h s (List.mem_cons_self ..)
    simp only [scells, List.flatMap_cons, List.length_append, List.length_cons] at ih ⊢
    rw [ih, h1]; simp only [Nat.add_mul]; omega
theorem scells_append (a b : List (Nat × Bool × List Value)) : scells (a ++ b) = scells a ++ scells b := by simp [scells]
theorem scells_at {m : Nat} {l : List (Nat × Bool × List Value)} (h : ∀ s ∈ l, s.2.2.length = m) {k : Nat} {s : Nat × Bool × List Value} (hk : l[k]? = some s) (i : Nat) (hi : i < m + 2) :
    (scells l)[k * (m + 2) + i]? = (Value.int .u32 (s.1 : Int) :: .bool s.2.1 :: s.2.2)[i]? := by
  induction l generalizing k with
  | nil => simp at hk
  | cons x l ih =>
    have hx := h x (List.mem_cons_self ..)
    have e : scells (x :: l) = (Value.int .u32 (x.1 : Int) :: .bool x.2.1 :: x.2.2) ++ scells l := by simp [scells]
    rw [e]
    cases k with
    | zero =>
      simp at hk; subst hk
      rw [List.getElem?_append_left (by simp; omega)]; simp
    | succ k =>
      rw [List.getElem?_append_right (by simp [Nat.add_mul]; omega)]
      have := ih (fun s hs => h s (List.mem_cons_of_mem _ hs)) (by simpa using hk)
      rw [← this]
      congr 1
      simp [Nat.add_mul]; omega
def Ar.live (A : Ar) (s g : Nat) : Bool := decide (1 ≤ s) && (match A.all[s - 1]? with | some x => x.2.1 && x.1 == g | none => false)
theorem Ar.live_iff {A : Ar} {s g : Nat} : A.live s g = true ↔ 1 ≤ s ∧ ∃ t, A.all[s - 1]? = some (g, true, t) := by
  unfold Ar.live
  simp only [Bool.and_eq_true, decide_eq_true_eq]
  refine and_congr Iff.rfl ?_
  cases h : A.all[s - 1]? with
  | none => simp
  | some x => obtain ⟨a, b, c⟩ := x; simp; constructor <;> (rintro ⟨rfl, rfl⟩; exact ⟨rfl, rfl⟩)
structure ArAt (tA tS tF m B : Nat) (w : World) (ab : Nat) (A : Ar) (av fv : Value) : Prop where
  ok : A.Ok m
  base : B ≤ ab
  blk : w.heap[ab]? = some (.cells #[.int .i64 (A.S : Int), .int .i64 (A.G : Int), av, fv, .int .i64 (A.count : Int), .int .i64 (A.ret : Int)] tA (0, 0))
  rowA : w.ownsRow B tS (m + 2) av A.all.length (scells A.all)
  rowF : w.ownsRow B tF 1 fv A.free.length (fcells A.free)
theorem ArAt.kept {tA tS tF m B : Nat} {w w' : World} {ab : Nat} {A : Ar} {av fv : Value} (h : ArAt tA tS tF m B w ab A av fv) {T : List TypeId} {B' : Nat} (hf : FrT T B' w w') (h1 : tA ∉ T) (h2 : tS ∉ T) (h3 : tF ∉ T) : ArAt tA tS tF m B w' ab A av fv :=
  ⟨h.ok, h.base, hf.blk h.blk h1, hf.row h.rowA h2, hf.row h.rowF h3⟩
theorem ArAt.below {tA tS tF m B : Nat} {w w' : World} {ab : Nat} {A : Ar} {av fv : Value} (h : ArAt tA tS tF m B w ab A av fv) (hf : Below w.heap.size w w') : ArAt tA tS tF m B w' ab A av fv :=
  h.kept (FrT.of_below (T := []) (B := 0) hf) (by simp) (by simp) (by simp)
theorem under31 : Tryd.prog.underlying 31 = some (.struct (Tryd.prog.fieldsOf 31)) := by kernel_rfl
theorem fields31 : (Tryd.prog.fieldsOf 31).toList.map (fun f => (f.name, f.type, f.offset)) = [("Slot", 29, 0), ("Gen", 29, 1)] := by kernel_rfl
theorem stood31 : Tryd.prog.stoodInHeld 31 = false := by kernel_rfl
theorem guard31 : Tryd.prog.eqGuardType Tryd.prog.depth 31 = false := by kernel_rfl
def hEq (a b c e : Int) : Bool := a == c && b == e
theorem hEq_true {a b c e : Int} (h1 : a = c) (h2 : b = e) : hEq a b c e = true := by simp [hEq, h1, h2]
theorem hEq_false {a b c e : Int} (h : a ≠ c ∨ b ≠ e) : hEq a b c e = false := by
  unfold hEq
  rcases h with h | h <;> simp [h]
theorem equalIn_handle (d : Nat) (a b c e : Int) (w : World) : (Op.equalIn (d + 1 + 1) 31 (.agg #[.int .u32 a, .int .u32 b]) (.agg #[.int .u32 c, .int .u32 e])).run Tryd.prog w = .ok (a == c && b == e) w := by
  rw [run_equalIn_struct w (d + 1) 31 _ _ under31 stood31]
  have hf := fields31
  generalize (Tryd.prog.fieldsOf 31).toList = fs at hf
  obtain ⟨f0, f1, rfl⟩ : ∃ f0 f1, fs = [f0, f1] := by
    have hl := congrArg List.length hf
    simp at hl
    match fs, hl with
    | [f0, f1], _ => exact ⟨f0, f1, rfl⟩
  simp only [List.map_cons, List.map_nil, List.cons.injEq, Prod.mk.injEq, and_true] at hf
  obtain ⟨⟨n0, t0, o0⟩, ⟨n1, t1, o1⟩⟩ := hf
  have hu := Tryd.underlying29
  simp [Op.eqFields, n0, n1, t0, t1, o0, o1, go_sem, hu]
  by_cases h : a = c
  · by_cases h2 : b = e <;> simp [h, h2]
  · simp [h]
@[go_sem ↓ high] theorem eql_handle (a b c e : Int) (w : World) : (binOp .eql 31 (.agg #[.int .u32 a, .int .u32 b]) (.agg #[.int .u32 c, .int .u32 e])).run Tryd.prog w = .ok (.bool (hEq a b c e)) w := by
  rw [run_eql_struct, show (10000 : Nat) = 9998 + 1 + 1 from rfl, equalIn_handle]; rfl
@[go_sem ↓ high] theorem neq_handle (a b c e : Int) (w : World) : (binOp .neq 31 (.agg #[.int .u32 a, .int .u32 b]) (.agg #[.int .u32 c, .int .u32 e])).run Tryd.prog w = .ok (.bool (!hEq a b c e)) w := by
  rw [run_neq_struct, show (10000 : Nat) = 9998 + 1 + 1 from rfl, equalIn_handle]; rfl
@[go_sem ↓ high] theorem guard_handle (op : BinOp) (x y : Operand) (xs ys : Array Value) (w : World) : (eqGuard op 31 x y (.agg xs) (.agg ys)).run Tryd.prog w = .ok () w := run_eqGuard_agg w op 31 x y xs ys guard31
end Go.Proofs.YtelhnaphkbpakaaDoor
