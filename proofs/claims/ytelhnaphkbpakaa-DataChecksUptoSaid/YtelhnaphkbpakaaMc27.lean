/- slices.stableCmpFunc and SortStableFunc walked. The order in Equal, at any number of attributes; EqualFunc. Equal, at any number of attributes. -/
import Derived.Test.YtelhnaphkbpakaaMc26
namespace Go.Proofs.Ytelhnaphkbpakaa
open Go.RowKit
set_option linter.unusedVariables false
set_option maxRecDepth 100000

/-- The first k blocks are sorted. -/
def FB (bs : Nat) (L : List LA) (k : Nat) : Prop := ∀ k', k' < k → Srt L (k' * bs) ((k' + 1) * bs)
/-- Every block is sorted. -/
def BS (bs n : Nat) (L : List LA) : Prop := ∀ k, Srt L (k * bs) (min ((k + 1) * bs) n)
/-- The blocks from j on are sorted. -/
def TB (bs n : Nat) (L : List LA) (j : Nat) : Prop := ∀ k, j ≤ k → Srt L (k * bs) (min ((k + 1) * bs) n)
theorem FB.zero (bs : Nat) (L : List LA) : FB bs L 0 := fun k h => by omega
theorem FB.step {bs k : Nat} {L L' : List LA} (h : FB bs L k) (he : ∀ i, i < k * bs → L'[i]? = L[i]?) (hs : Srt L' (k * bs) ((k + 1) * bs)) : FB bs L' (k + 1) := fun k' hk => by
  by_cases e : k' = k
  · rw [e]; exact hs
  · have h1 : (k' + 1) * bs ≤ k * bs := Nat.mul_le_mul_right _ (by omega)
    exact (h k' (by omega)).same (fun i i1 i2 => he i (by omega))
theorem FB.last {bs n k : Nat} {L L' : List LA} (h : FB bs L k) (hk : k * bs ≤ n) (hn : n < (k + 1) * bs) (he : ∀ i, i < k * bs → L'[i]? = L[i]?) (hs : Srt L' (k * bs) n) : BS bs n L' := fun k' => by
  by_cases e1 : k' < k
  · have h1 : (k' + 1) * bs ≤ k * bs := Nat.mul_le_mul_right _ (by omega)
    rw [Nat.min_eq_left (by omega)]
    exact (h k' e1).same (fun i i1 i2 => he i (by omega))
  · by_cases e2 : k' = k
    · rw [e2, Nat.min_eq_right (by omega)]; exact hs
    · have h1 : (k + 1) * bs ≤ k' * bs := Nat.mul_le_mul_right _ (by omega)
      exact Srt.less (by have := Nat.min_le_right ((k' + 1) * bs) n; omega)
theorem TB.next {bs n j j' : Nat} {L L' : List LA} (h : TB bs n L j) (hj : j ≤ j') (he : ∀ i, j' * bs ≤ i → L'[i]? = L[i]?) : TB bs n L' j' := fun k hk => by
  have h1 : j' * bs ≤ k * bs := Nat.mul_le_mul_right _ hk
  exact (h k (by omega)).same (fun i i1 i2 => he i (by omega))
theorem BS.all {bs n : Nat} {L : List LA} (h : BS bs n L) (hn : n ≤ bs) : Srt L 0 n := by
  have := h 0
  rw [Nat.zero_mul, Nat.zero_add, Nat.one_mul, Nat.min_eq_right hn] at this
  exact this
theorem mul2a (k bs : Nat) : 2 * k * bs = k * (2 * bs) := by rw [Nat.mul_comm 2 k, Nat.mul_assoc]
theorem mul2b (k bs : Nat) : (2 * k + 1) * bs = k * (2 * bs) + bs := by rw [Nat.add_mul, mul2a, Nat.one_mul]
theorem mul2c (k bs : Nat) : (2 * k + 1 + 1) * bs = (k + 1) * (2 * bs) := by rw [← mul2a]; congr 1
theorem mulS (k bs : Nat) : (k + 1) * bs = k * bs + bs := by rw [Nat.add_mul, Nat.one_mul]
/-- The two halves of a block of twice the size. -/
theorem TB.two {bs n k : Nat} {L : List LA} (h : TB bs n L (2 * k)) (hb : (k + 1) * (2 * bs) ≤ n) : Srt L (k * (2 * bs)) (k * (2 * bs) + bs) ∧ Srt L (k * (2 * bs) + bs) ((k + 1) * (2 * bs)) := by
  have h1 := h (2 * k) (Nat.le_refl _)
  have h2 := h (2 * k + 1) (by omega)
  have e := mulS k (2 * bs)
  rw [mul2a, mul2b, Nat.min_eq_left (by omega)] at h1
  rw [mul2b, mul2c, Nat.min_eq_left hb] at h2
  exact ⟨h1, h2⟩
theorem TB.last {bs n k : Nat} {L : List LA} (h : TB bs n L (2 * k)) (hb : n < (k + 1) * (2 * bs)) (hm : k * (2 * bs) + bs < n) : Srt L (k * (2 * bs)) (k * (2 * bs) + bs) ∧ Srt L (k * (2 * bs) + bs) n := by
  have h1 := h (2 * k) (Nat.le_refl _)
  have h2 := h (2 * k + 1) (by omega)
  rw [mul2a, mul2b, Nat.min_eq_left (by omega)] at h1
  rw [mul2b, mul2c, Nat.min_eq_right (by omega)] at h2
  exact ⟨h1, h2⟩
theorem TB.lone {bs n k : Nat} {L : List LA} (h : TB bs n L (2 * k)) (hm : n ≤ k * (2 * bs) + bs) : Srt L (k * (2 * bs)) n := by
  have h1 := h (2 * k) (Nat.le_refl _)
  rw [mul2a, mul2b, Nat.min_eq_right (by omega)] at h1
  exact h1

set_option maxHeartbeats 8000000 in
theorem stable_calls (w : World) {lo hi B : Nat} {V : World} {a : Option Addr} {n cap : Nat} {L : List LA} (h : RowTo lo hi B V w a n cap L) (hg : ∀ g, (Value.slice a n cap).ownBlock = some g → lo ≤ g ∧ g < hi) (hv : ValOk lo hi V L) (hn : n ≤ 1099511627776) :
    Calls Try.prog 90 #[.slice a n cap, .int .i64 (n : Int), .func (.func 56) #[] #[]] w fun e w' => (∃ v, e = .returned v) ∧ ∃ L', RowTo lo hi B V w' a n cap L' ∧ L'.Perm L ∧ Srt L' 0 n := by
  have HH := Lib.hid h
  have HG := Lib.hid hg
  have HV := Lib.hid hv
  clear h hg hv
  go_enter Try.func90, Try.ntmps90
  go_wp2_with fail
  go_loopw [7, 8] (fun va vb wr => ∃ (s b k : Nat) (L' : List LA), va = .int .i64 (s : Nat) ∧ vb = .int .i64 (b : Nat) ∧ Hid (s = k * 20) ∧ b = s + 20 ∧ s ≤ n ∧ RowTo lo hi B V wr a n cap L' ∧ L'.Perm L ∧ FB 20 L' k) (fun va _ _ => n - (intOf va).toNat)
  case atStart => exact ⟨0, 20, 0, L, rfl, rfl, Lib.hid rfl, rfl, Nat.zero_le _, HH.out, List.Perm.refl _, FB.zero _ _⟩
  case round =>
    obtain ⟨s, b, k, L', rfl, rfl, hs, hbs, hsn, hR, hperm, hfb⟩ := hrel
    have HX := Lib.hid (And.intro hR (And.intro hperm hfb))
    have HB := Lib.hid hbs
    have hsb : s ≤ b := by omega
    by_cases hlt : b ≤ n
    · have p1 : (b : Int) ≤ (n : Int) := by omega
      have w1 : IntKind.i64.wrap ((b : Int) + 20) = (b : Int) + 20 := IntWalk.i64_in _ (by omega)
      have HIN := Lib.hid (insert_calls wr hR HG.out (HV.out.perm hperm) s b hn hsb hlt)
      clear hR hperm hfb hbs
      go_wp2_with fail
      refine HIN.out.mono ?_
      rintro e w2 ⟨⟨v, rfl⟩, L2, hR2, hp2, ho2, hs2⟩
      have H2 := Lib.hid (And.intro hR2 (And.intro hp2 (And.intro ho2 hs2)))
      clear hR2 hp2 ho2 hs2 HIN
      go_wp2_with fail
      go_roundw
      case rel =>
        refine ⟨b, b + 20, k + 1, L2, rfl, by go_num, Lib.hid (by have := hs.out; have := HB.out; omega), rfl, hlt, H2.out.1, H2.out.2.1.trans HX.out.2.1, HX.out.2.2.step (fun i hi => H2.out.2.2.1 i (.inl (by have := hs.out; omega))) ?_⟩
        have e1 := H2.out.2.2.2
        rw [HB.out, hs.out] at e1
        rw [mulS]; exact e1
      case measure => have := HB.out; simp [intOf]; omega
    · have p1 : ¬ (b : Int) ≤ (n : Int) := by omega
      have HIN := Lib.hid (insert_calls wr hR HG.out (HV.out.perm hperm) s n hn hsn (Nat.le_refl _))
      clear hR hperm hfb hbs
      go_wp2_with fail
      refine HIN.out.mono ?_
      rintro e w2 ⟨⟨v, rfl⟩, L2, hR2, hp2, ho2, hs2⟩
      have hbs2 : BS 20 n L2 := HX.out.2.2.last (by have := hs.out; omega) (by have := hs.out; have := HB.out; omega) (fun i hi => ho2 i (.inl (by have := hs.out; omega))) (by have e := hs.out; rw [← e]; exact hs2)
      have H2 := Lib.hid (And.intro hR2 (And.intro (hp2.trans HX.out.2.1) hbs2))
      clear hR2 hp2 ho2 hs2 HIN HX hbs2 HB hs p1 hsb hsn hlt
      go_wp2_with fail
      go_loopw [6] (fun v6 wr => ∃ (bs : Nat) (L' : List LA), v6 = .int .i64 (bs : Nat) ∧ 0 < bs ∧ RowTo lo hi B V wr a n cap L' ∧ L'.Perm L ∧ BS bs n L') (fun v6 _ => n - (intOf v6).toNat)
      case atStart => exact ⟨20, L2, rfl, by omega, H2.out.1, H2.out.2.1, H2.out.2.2⟩
      case round =>
        clear H2
        obtain ⟨bs, L3, rfl, hbs0, hR, hperm, hbsr⟩ := hrel
        have HX := Lib.hid (And.intro hR (And.intro hperm hbsr))
        clear hR hperm hbsr
        by_cases hlt : bs < n
        · have p1 : (bs : Int) < (n : Int) := by omega
          have w0 : IntKind.i64.wrap (2 * (bs : Int)) = 2 * (bs : Int) := IntWalk.i64_in _ (by omega)
          have w0' : IntKind.i64.wrap ((bs : Int) * 2) = (bs : Int) * 2 := IntWalk.i64_in _ (by omega)
          go_wp2_with fail
          go_loopw [7, 8] (fun va vb wr => ∃ (s b k : Nat) (L' : List LA), va = .int .i64 (s : Nat) ∧ vb = .int .i64 (b : Nat) ∧ Hid (s = k * (2 * bs)) ∧ b = s + 2 * bs ∧ s ≤ n ∧ RowTo lo hi B V wr a n cap L' ∧ L'.Perm L ∧ FB (2 * bs) L' k ∧ TB bs n L' (2 * k)) (fun va _ _ => n - (intOf va).toNat)
          case atStart => exact ⟨0, 2 * bs, 0, L3, rfl, by go_num, Lib.hid (by omega), by omega, Nat.zero_le _, HX.out.1, HX.out.2.1, FB.zero _ _, fun k _ => HX.out.2.2 k⟩
          case round =>
            clear HX
            obtain ⟨s, b, k, L', rfl, rfl, hs, hbs, hsn, hR, hperm, hfb, htb⟩ := hrel
            have HX := Lib.hid (And.intro hR (And.intro hperm (And.intro hfb htb)))
            have HB := Lib.hid hbs
            have HE : Hid (b = (k + 1) * (2 * bs)) := Lib.hid (by rw [mulS, ← hs.out]; exact hbs)
            have w1 : IntKind.i64.wrap ((s : Int) + (bs : Int)) = (s : Int) + (bs : Int) := IntWalk.i64_in _ (by omega)
            by_cases hlt2 : b ≤ n
            · have p2 : (b : Int) ≤ (n : Int) := by omega
              have w2 : IntKind.i64.wrap ((b : Int) + 2 * (bs : Int)) = (b : Int) + 2 * (bs : Int) := IntWalk.i64_in _ (by omega)
              have htw := htb.two (by rw [← HE.out]; exact hlt2)
              rw [← hs.out, ← HE.out] at htw
              have hsy := symMerge_calls wr hR HG.out (HV.out.perm hperm) s (s + bs) b hn (by omega) (by omega) hlt2 htw.1 htw.2
              rw [show ((s + bs : Nat) : Int) = (s : Int) + (bs : Int) by omega] at hsy
              have HSY := Lib.hid hsy
              clear hR hperm hfb htb hbs htw hsy
              go_wp2_with fail
              refine HSY.out.mono ?_
              rintro e w2 ⟨⟨v, rfl⟩, L2, hR2, hp2, ho2, hs2⟩
              have H2 := Lib.hid (And.intro hR2 (And.intro hp2 (And.intro ho2 hs2)))
              clear hR2 hp2 ho2 hs2 HSY
              go_wp2_with fail
              go_roundw
              case rel =>
                refine ⟨b, b + 2 * bs, k + 1, L2, rfl, by go_num, Lib.hid HE.out, rfl, hlt2, H2.out.1, H2.out.2.1.trans HX.out.2.1, HX.out.2.2.1.step (fun i hi => H2.out.2.2.1 i (.inl (by have := hs.out; omega))) ?_, HX.out.2.2.2.next (by omega) (fun i hi => H2.out.2.2.1 i (.inr (by have := HE.out; rw [show 2 * (k + 1) = 2 * k + 1 + 1 by omega, mul2c] at hi; omega)))⟩
                have e1 := H2.out.2.2.2
                rw [HE.out, hs.out] at e1
                exact e1
              case measure => have := HB.out; simp [intOf]; omega
            · have p2 : ¬ (b : Int) ≤ (n : Int) := by omega
              by_cases hm : s + bs < n
              · have p3 : (s : Int) + (bs : Int) < (n : Int) := by omega
                have htw := htb.last (by rw [← HE.out]; omega) (by rw [← hs.out]; exact hm)
                rw [← hs.out] at htw
                have hsy := symMerge_calls wr hR HG.out (HV.out.perm hperm) s (s + bs) n hn (by omega) hm (Nat.le_refl _) htw.1 htw.2
                rw [show ((s + bs : Nat) : Int) = (s : Int) + (bs : Int) by omega] at hsy
                have HSY := Lib.hid hsy
                clear hR hperm hfb htb hbs htw hsy
                go_wp2_with fail
                refine HSY.out.mono ?_
                rintro e w2 ⟨⟨v, rfl⟩, L2, hR2, hp2, ho2, hs2⟩
                have H2 := Lib.hid (And.intro hR2 (And.intro hp2 (And.intro ho2 hs2)))
                clear hR2 hp2 ho2 hs2 HSY
                go_wp2_with fail
                go_roundw
                case rel =>
                  exact ⟨2 * bs, L2, by first | (congr 1; omega) | (go_num; done), by omega, H2.out.1, H2.out.2.1.trans HX.out.2.1, HX.out.2.2.1.last (by rw [← hs.out]; exact hsn) (by rw [← HE.out]; omega) (fun i hi => H2.out.2.2.1 i (.inl (by have := hs.out; omega))) (by rw [← hs.out]; exact H2.out.2.2.2)⟩
                case measure => simp [intOf]; omega
              · have p3 : ¬ (s : Int) + (bs : Int) < (n : Int) := by omega
                clear hR hperm hfb htb hbs
                go_wp2_with fail
                go_roundw
                case rel =>
                  exact ⟨2 * bs, L', by first | (congr 1; omega) | (go_num; done), by omega, HX.out.1, HX.out.2.1, HX.out.2.2.1.last (by rw [← hs.out]; exact hsn) (by rw [← HE.out]; omega) (fun i hi => rfl) (HX.out.2.2.2.lone (n := n) (by rw [← hs.out]; omega))⟩
                case measure => simp [intOf]; omega
        · have p1 : ¬ (bs : Int) < (n : Int) := by omega
          go_wp2_with fail
          go_end0
          exact ⟨⟨_, rfl⟩, L3, HX.out.1, HX.out.2.1, HX.out.2.2.all (by omega)⟩

theorem sort_calls (w : World) {lo hi B : Nat} {V : World} {a : Option Addr} {n cap : Nat} {L : List LA} (h : RowTo lo hi B V w a n cap L) (hg : ∀ g, (Value.slice a n cap).ownBlock = some g → lo ≤ g ∧ g < hi) (hv : ValOk lo hi V L) (hn : n ≤ 1099511627776) :
    Calls Try.prog 55 #[.slice a n cap, .func (.func 56) #[] #[]] w fun e w' => (∃ v, e = .returned v) ∧ ∃ L', RowTo lo hi B V w' a n cap L' ∧ L'.Perm L ∧ Srt L' 0 n := by
  have HST := Lib.hid (stable_calls w h hg hv hn)
  clear h hg hv
  go_enter Try.func55, Try.ntmps55
  go_wp2_with fail
  refine HST.out.mono ?_
  rintro e w2 ⟨⟨v, rfl⟩, L2, hR2, hp2, hs2⟩
  have H2 := Lib.hid (And.intro hR2 (And.intro hp2 hs2))
  clear hR2 hp2 hs2 HST
  go_wp2_with fail
  go_end0
  exact ⟨⟨_, rfl⟩, L2, H2.out⟩
end Go.Proofs.Ytelhnaphkbpakaa

namespace Go.Proofs.Ytelhnaphkbpakaa
open Go.RowKit
set_option linter.unusedVariables false
set_option maxRecDepth 100000

theorem SlA.addr {w : World} {a : Option Addr} {L : List LA} (h : SlA w a L) (hl : L ≠ []) : ∃ ad, a = some ad := by
  rcases h.src with h0 | ⟨ad, h1, _⟩
  · exact absurd (List.eq_nil_of_length_eq_zero h0) hl
  · exact ⟨ad, h1⟩
theorem sla_row {w : World} {B : Nat} {a : Option Addr} {n c : Nat} {L : List LA} (hr : w.ownsRow B 72 2 (.slice a n c) n (cellsA L)) (hz : ∀ x ∈ L, Sl16 w x.va x.val) (hn : ∀ x ∈ L, x.name.size ≤ 9223372036854775807) (hl : L.length ≤ 4611686018427387903) : SlA w a L :=
  ⟨fun j u hu => by obtain ⟨b, h1, h2, h3⟩ := row_src hr hu; exact ⟨b, 0, h1, h2, h3⟩, hl, hz, hn⟩
set_option maxHeartbeats 1000000 in
theorem cloneNil_calls (w : World) (n ca : Nat) : Calls Try.prog 54 #[.slice none n ca] w fun e w' => e = .returned (.slice none 0 0) ∧ w = w' := by
  have heq : ∀ w, (binOp .eql 25 (.slice none n ca) (.slice none 0 0)).run Try.prog w = .ok (.bool true) w := fun w => Lib.run_eql_slice_nil w _ _ none n ca 0 0 Try.underlying25
  go_enter Try.func54, Try.ntmps54
  go_wp2
  go_ret
  exact ⟨rfl, rfl⟩
set_option maxHeartbeats 2000000 in
theorem order_calls (w : World) {aa : Option Addr} {L : List LA} (ca : Nat) (hA : SlA w aa L) (hl : L.length ≤ 1099511627776) :
    Calls Try.prog 53 #[.slice aa L.length ca] w fun e w' => ∃ a' c' L', e = .returned (.slice a' L.length c') ∧ SlA w' a' L' ∧ L'.Perm L ∧ Srt L' 0 L.length ∧ Below w.heap.size w w' := by
  cases aa with
  | none =>
    have hL : L = [] := by
      rcases hA.src with h0 | ⟨ad, h1, _⟩
      · exact List.eq_nil_of_length_eq_zero h0
      · cases h1
    subst hL
    have hc := cloneNil_calls w 0 ca
    have hs := fun f => sort1_calls w (.slice none 0 0) f none 0 0 (by omega) rfl
    clear hA hl
    go_enter Try.func53, Try.ntmps53
    go_wp2_with (first | (go_at_call 54; refine hc.mono ?_; rintro e w2 ⟨rfl, rfl⟩) | (go_at_call 55; refine (hs _).mono ?_; rintro e w3 ⟨⟨r, rfl⟩, rfl⟩))
    go_ret
    exact ⟨none, 0, [], rfl, SlA.nil _ _, List.Perm.refl _, Srt.less (by simp), Below.refl _ _⟩
  | some ad =>
    have hc := clone54_calls w ca hA hl
    have HA := Lib.hid hA
    obtain ⟨n, hn⟩ : ∃ n, n = L.length := ⟨_, rfl⟩
    rw [← hn] at hl hc ⊢
    have HN := Lib.hid hn
    have HC := Lib.hid hc
    clear hn hc hA
    go_enter Try.func53, Try.ntmps53
    go_wp2_with fail
    refine HC.out.mono ?_
    rintro e w2 ⟨a2, c2, rfl, hown, hb⟩
    have hval : ValOk w.heap.size w2.heap.size w2 L := fun x hx w' ho => (HA.out.val x hx).below (hb.trans (ho.below hb.size))
    have hg : ∀ g, (Value.slice a2 n c2).ownBlock = some g → w.heap.size ≤ g ∧ g < w2.heap.size := fun g hg => by
      rcases hown.2 with ⟨h1, _⟩ | ⟨g', cap, cur, h1, h2, h3, _⟩
      · rw [h1] at hg; cases hg
      · rw [h1] at hg
        have : g' = g := by simpa [Value.ownBlock] using hg
        subst this
        exact ⟨h2, lt_of_some h3⟩
    have HS := Lib.hid (sort_calls w2 (lo := w.heap.size) (hi := w2.heap.size) (B := w.heap.size) (V := w2) ⟨OutW.refl _ _ _, hown⟩ hg hval hl)
    have HB := Lib.hid hb
    have HV := Lib.hid hval
    clear hown hb hval hg
    go_wp2_with fail
    refine HS.out.mono ?_
    rintro e w3 ⟨⟨v, rfl⟩, L', hR, hp, hs⟩
    have HF := Lib.hid (And.intro hR (And.intro hp hs))
    clear hR hp hs HS
    go_wp2
    go_ret
    refine ⟨a2, c2, L', rfl, sla_row HF.out.1.row (fun x hx => HV.out.perm HF.out.2.1 x hx w3 HF.out.1.out) (fun x hx => HA.out.nam x (HF.out.2.1.mem_iff.1 hx)) (by rw [HF.out.2.1.length_eq]; exact HA.out.len), HF.out.2.1, HF.out.2.2, HB.out.trans (HF.out.1.out.below HB.out.size)⟩

/-- The call answers whether p holds, and turns nothing that stood. -/
def BPost (p : Prop) (w : World) (e : Ending) (w' : World) : Prop := ∃ r, e = .returned (.bool r) ∧ (r = true ↔ p) ∧ Below w.heap.size w w'
set_option maxHeartbeats 2000000 in
/-- EqualFunc of two slices of one length. -/
theorem equalFunc_calls (w : World) {a b : Option Addr} {L M : List LA} (n ca cb : Nat) (hL : L.length = n) (hM : M.length = n) (hA : SlA w a L) (hB : SlA w b M) :
    Calls Try.prog 60 #[.slice a n ca, .slice b n cb, .func (.func 61) #[] #[]] w (BPost (L.map attrOf = M.map attrOf) w) := by
  have hn : n ≤ 4611686018427387903 := by rw [← hL]; exact hA.len
  have HL := Lib.hid (And.intro hL hM)
  have HA := Lib.hid (And.intro hA hB)
  clear hL hM hA hB
  go_enter Try.func60, Try.ntmps60
  go_wp2_with fail
  go_loopw [17] (fun v wr => ∃ i : Nat, v = .int .i64 (i : Nat) ∧ i ≤ n ∧ (∀ (j : Nat) (x y : LA), j < i → L[j]? = some x → M[j]? = some y → attrOf x = attrOf y) ∧ Below w.heap.size w wr) (fun v _ => n - (intOf v).toNat)
  case atStart => exact ⟨0, rfl, Nat.zero_le _, fun j x y h => absurd h (by omega), Below.refl _ _⟩
  case round =>
    obtain ⟨i, rfl, hi, heq, hb⟩ := hrel
    have HE := Lib.hid heq
    clear heq
    by_cases hlt : i < n
    · have p1 : (i : Int) < (n : Int) := by omega
      have p2 : (0 : Int) ≤ (i : Int) := by omega
      have w1 : IntKind.i64.wrap ((i : Int) + 1) = (i : Int) + 1 := IntWalk.i64_in _ (by omega)
      have h1 := HL.out.1
      have h2 := HL.out.2
      obtain ⟨x, hx⟩ : ∃ x, L[i]? = some x := ⟨_, List.getElem?_eq_getElem (by omega)⟩
      obtain ⟨y, hy⟩ : ∃ y, M[i]? = some y := ⟨_, List.getElem?_eq_getElem (by omega)⟩
      clear h1 h2
      obtain ⟨b1, o1, rfl, hl1, c1, c2⟩ := (HA.out.1.below hb).get hx
      obtain ⟨b2, o2, rfl, hl2, d1, d2⟩ := (HA.out.2.below hb).get hy
      have hbW : Below wr.heap.size wr ((wr.alloc (.cells #[.string x.name, .slice x.va x.val.length x.vc] 72)).alloc (.cells #[.string y.name, .slice y.va y.val.length y.vc] 72)) := ((Below.refl _ wr).alloc (Nat.le_refl _) _).alloc (by simp) _
      have he := eqAt_calls ((wr.alloc (.cells #[.string x.name, .slice x.va x.val.length x.vc] 72)).alloc (.cells #[.string y.name, .slice y.va y.val.length y.vc] 72)) x y ((HA.out.1.val x (List.mem_of_getElem? hx)).below (hb.trans (hbW.mono hb.size))) ((HA.out.2.val y (List.mem_of_getElem? hy)).below (hb.trans (hbW.mono hb.size)))
      unfold LA.v at he
      obtain ⟨r, hr⟩ : ∃ r, r = eqAt x y := ⟨_, rfl⟩
      rw [← hr] at he
      obtain ⟨xl, exl⟩ : ∃ xl, xl = x.val.length := ⟨_, rfl⟩
      obtain ⟨yl, eyl⟩ : ∃ yl, yl = y.val.length := ⟨_, rfl⟩
      rw [← exl] at c2 he hbW
      rw [← eyl] at d2 he hbW
      have HC := Lib.hid he
      have HR := Lib.hid hr
      have HBW := Lib.hid (And.intro hb hbW)
      have HXY := Lib.hid (And.intro hx hy)
      have d1' : (wr.alloc (.cells #[.string x.name, .slice x.va xl x.vc] 72)).cell? ⟨b2, o2 + i * 2, none⟩ = some (.string y.name) := (((Below.refl _ wr).alloc (Nat.le_refl _) _).cell (p := ⟨b2, o2 + i * 2, none⟩) hl2).trans d1
      have d2' : (wr.alloc (.cells #[.string x.name, .slice x.va xl x.vc] 72)).cell? ⟨b2, o2 + i * 2 + 1, none⟩ = some (.slice y.va yl y.vc) := (((Below.refl _ wr).alloc (Nat.le_refl _) _).cell (p := ⟨b2, o2 + i * 2 + 1, none⟩) hl2).trans d2
      clear he hr hb hbW hx hy exl eyl d1 d2
      cases r with
      | true =>
        go_wp2_with (go_at_call 61; refine HC.out.mono ?_; rintro e w2 ⟨rfl, b2⟩)
        go_roundw
        case rel =>
          refine ⟨i + 1, by go_num, hlt, fun j x' y' hj hx' hy' => ?_, HBW.out.1.trans ((HBW.out.2.trans (b2.mono HBW.out.2.size)).mono HBW.out.1.size)⟩
          by_cases hji : j = i
          · subst hji
            rw [HXY.out.1] at hx'
            rw [HXY.out.2] at hy'
            cases hx'
            cases hy'
            have := HR.out
            unfold eqAt at this
            have h2 := (Bool.and_eq_true _ _).mp this.symm
            exact Prod.ext (ba_eq.1 h2.1) (of_decide_eq_true h2.2)
          · exact HE.out j x' y' (by omega) hx' hy'
        case measure => simp [intOf]; omega
      | false =>
        go_wp2_with (go_at_call 61; refine HC.out.mono ?_; rintro e w2 ⟨rfl, b2⟩)
        go_ret
        refine ⟨false, rfl, ⟨fun h => absurd h (by simp), fun h => ?_⟩, HBW.out.1.trans ((HBW.out.2.trans (b2.mono HBW.out.2.size)).mono HBW.out.1.size)⟩
        have h1 := attrs_at h HXY.out.1 HXY.out.2
        have := HR.out
        unfold eqAt at this
        rw [h1.1, h1.2, ba_refl, decide_eq_true rfl] at this
        cases this
    · obtain rfl : i = n := by omega
      have p1 : ¬ (i : Int) < (i : Int) := by omega
      have HB := Lib.hid hb
      clear hb
      go_wp2
      go_ret
      exact ⟨true, rfl, ⟨fun _ => attrs_ext (by rw [HL.out.1, HL.out.2]) (fun j x y hj hx hy => HE.out j x y (by rw [← HL.out.1]; exact hj) hx hy), fun _ => rfl⟩, HB.out⟩
end Go.Proofs.Ytelhnaphkbpakaa

namespace Go.Proofs.Ytelhnaphkbpakaa
open Go.RowKit
set_option linter.unusedVariables false
set_option maxRecDepth 100000

/-- Equal says: the same kind, name, units; the same attributes in whatever order. -/
def EqD (c d : NC) : Prop := c.kind = d.kind ∧ c.name = d.name ∧ c.data = d.data ∧ c.attrs.Perm d.attrs
theorem sorted_iff {L M L' M' : List LA} {n : Nat} (hn : L.length = n) (hm : M.length = n) (hp : L'.Perm L) (hq : M'.Perm M) (hs : Srt L' 0 n) (ht : Srt M' 0 n) : L'.map attrOf = M'.map attrOf ↔ (L.map attrOf).Perm (M.map attrOf) := by
  constructor
  · intro h
    have h1 := (hp.map attrOf).symm
    rw [h] at h1
    exact h1.trans (hq.map attrOf)
  · intro h
    have h1 := ((hp.map attrOf).trans h).trans (hq.map attrOf).symm
    have e1 := hp.length_eq
    have e2 := hq.length_eq
    refine sorted_unique h1 (Srt.pairwise (by rw [e1, hn]; exact hs)) (Srt.pairwise (by rw [e2, hm]; exact ht))
theorem EqD.no {c d : NC} (h : ¬ (c.kind = d.kind ∧ c.name = d.name ∧ c.data = d.data ∧ c.attrs.length = d.attrs.length)) : ¬ EqD c d := fun e => h ⟨e.1, e.2.1, e.2.2.1, e.2.2.2.length_eq⟩

set_option maxHeartbeats 8000000 in
theorem equal_calls (w : World) (M N : Nd) (hM : NdIn w M) (hN : NdIn w N) (bM : M.L.length ≤ 1099511627776) (bN : N.L.length ≤ 1099511627776) :
    Calls Try.prog 17 #[M.v, N.v] w (BPost (EqD M.c N.c) w) := by
  obtain ⟨hMd, hMa, hMn, _⟩ := hM
  obtain ⟨hNd, hNa, hNn, _⟩ := hN
  obtain ⟨k, nm, da, dc, data, aa, ac, L, sl, ge⟩ := M
  obtain ⟨k2, nm2, da2, dc2, data2, aa2, ac2, L2, sl2, ge2⟩ := N
  simp only [Nd.v, Nd.cells] at *
  obtain ⟨n, en⟩ : ∃ n, n = L.length := ⟨_, rfl⟩
  obtain ⟨n2, en2⟩ : ∃ n2, n2 = L2.length := ⟨_, rfl⟩
  obtain ⟨m, em⟩ : ∃ m, m = data.length := ⟨_, rfl⟩
  obtain ⟨m2, em2⟩ : ∃ m2, m2 = data2.length := ⟨_, rfl⟩
  rw [← en, ← em, ← en2, ← em2]
  rw [← en] at bM
  rw [← en2] at bN
  obtain ⟨V, hV⟩ : ∃ V, V = (w.alloc (.cells #[.int .i64 k, .string nm, .slice da m dc, .slice aa n ac, .int .u32 sl, .int .u32 ge] 30)).alloc (.cells #[.int .i64 k2, .string nm2, .slice da2 m2 dc2, .slice aa2 n2 ac2, .int .u32 sl2, .int .u32 ge2] 30) := ⟨_, rfl⟩
  have hbV : Below w.heap.size w V := by rw [hV]; exact ((Below.refl _ w).alloc (Nat.le_refl _) _).alloc (by simp) _
  have v0 : V.heap[w.heap.size]? = some (.cells #[.int .i64 k, .string nm, .slice da m dc, .slice aa n ac, .int .u32 sl, .int .u32 ge] 30 (0, 0)) := by rw [hV]; exact alloc_blk (Go.heap_alloc_new w _) _
  have v1 : V.heap[w.heap.size + 1]? = some (.cells #[.int .i64 k2, .string nm2, .slice da2 m2 dc2, .slice aa2 n2 ac2, .int .u32 sl2, .int .u32 ge2] 30 (0, 0)) := by
    rw [hV]; have := Go.heap_alloc_new (w.alloc (.cells #[.int .i64 k, .string nm, .slice da m dc, .slice aa n ac, .int .u32 sl, .int .u32 ge] 30)) (.cells #[.int .i64 k2, .string nm2, .slice da2 m2 dc2, .slice aa2 n2 ac2, .int .u32 sl2, .int .u32 ge2] 30); rwa [World.size_alloc] at this
  have he := eq16_calls dc dc2 (hMd.below hbV) (hNd.below hbV)
  rw [← em, ← em2] at he
  have HE := Lib.hid he
  have HV := Lib.hid (And.intro hV (And.intro hbV (And.intro v0 v1)))
  have HA := Lib.hid (And.intro hMa hNa)
  have HL := Lib.hid (And.intro en en2)
  clear he hbV v0 v1 hMa hNa hMd hNd en en2 em em2
  by_cases hall : k = k2 ∧ nm = nm2 ∧ data = data2 ∧ n = n2
  · obtain ⟨rfl, rfl, rfl, rfl⟩ := hall
    have HE2 := HE.out
    rw [decide_eq_true rfl, hV] at HE2
    have HE3 := Lib.hid HE2
    clear HE2 HE
    go_enter Try.func17, Try.ntmps17
    go_wp2_with (go_at_call 52; refine HE3.out.mono ?_; rintro e w2 ⟨rfl, kk, rfl⟩)
    have HO1 : Hid (∀ w', Below V.heap.size V w' → Calls Try.prog 53 #[.slice aa n ac] w' fun e w'' => ∃ a' c' L', e = .returned (.slice a' n c') ∧ SlA w'' a' L' ∧ L'.Perm L ∧ Srt L' 0 n ∧ Below w'.heap.size w' w'') := Lib.hid (fun w' hb => by
      have h := order_calls w' ac (HA.out.1.below (HV.out.2.1.trans (hb.mono HV.out.2.1.size))) (by rw [← HL.out.1]; exact bM)
      rw [← HL.out.1] at h
      exact h)
    have HO2 : Hid (∀ w', Below V.heap.size V w' → Calls Try.prog 53 #[.slice aa2 n ac2] w' fun e w'' => ∃ a' c' L', e = .returned (.slice a' n c') ∧ SlA w'' a' L' ∧ L'.Perm L2 ∧ Srt L' 0 n ∧ Below w'.heap.size w' w'') := Lib.hid (fun w' hb => by
      have h := order_calls w' ac2 (HA.out.2.below (HV.out.2.1.trans (hb.mono HV.out.2.1.size))) (by rw [← HL.out.2]; exact bN)
      rw [← HL.out.2] at h
      exact h)
    have HSW : Hid (∀ w', Below V.heap.size V w' → w'.cell? ⟨w.heap.size, 3, none⟩ = some (.slice aa n ac) ∧ w'.cell? ⟨w.heap.size + 1, 3, none⟩ = some (.slice aa2 n ac2)) := Lib.hid (fun w' hb =>
      ⟨cell_blk ((hb.block _ (lt_of_some HV.out.2.2.1)).trans HV.out.2.2.1) 3 rfl, cell_blk ((hb.block _ (lt_of_some HV.out.2.2.2)).trans HV.out.2.2.2) 3 rfl⟩)
    have HD0 : Hid (Below V.heap.size V (((w.alloc (.cells #[.int .i64 k, .string nm, .slice da m dc, .slice aa n ac, .int .u32 sl, .int .u32 ge] 30)).alloc (.cells #[.int .i64 k, .string nm, .slice da2 m2 dc2, .slice aa2 n ac2, .int .u32 sl2, .int .u32 ge2] 30)).drewN kk).drew) := Lib.hid (by rw [← HV.out.1]; exact ((FrT.refl [] _ V).drewN kk).below (Nat.le_refl _) |>.drew)
    have HEF : Hid (∀ (w' : World) (a' b' : Option Addr) (ca cb : Nat) (La Lb : List LA), SlA w' a' La → SlA w' b' Lb → La.Perm L → Lb.Perm L2 → Calls Try.prog 60 #[.slice a' n ca, .slice b' n cb, .func (.func 61) #[] #[]] w' (BPost (La.map attrOf = Lb.map attrOf) w')) := Lib.hid (fun w' a' b' ca cb La Lb h1 h2 h3 h4 => equalFunc_calls w' n ca cb (by rw [h3.length_eq, HL.out.1]) (by rw [h4.length_eq, HL.out.2]) h1 h2)
    clear bM bN hV
    go_region_held3 (fun w' => w'.cell? ⟨w.heap.size, 3, none⟩ = some (.slice aa n ac) ∧ w'.cell? ⟨w.heap.size + 1, 3, none⟩ = some (.slice aa2 n ac2))
      (first | exact HSW.out _ HD0.out | exact HSW.out _ hb5 | exact HSW.out _ hb6 | exact HSW.out _ hb7)
      (first | (go_at_call 60; have hh := hb6; refine (HEF.out _ _ _ _ _ _ _ (hs5.below b6) hs6 hp5 hp6).mono ?_; rintro e w7 ⟨r, rfl, hr7, b7⟩; have hb7 := hb6.trans (b7.mono hb6.size)) | (go_at_call 53; have hh := hb5; refine (HO2.out _ hb5).mono ?_; rintro e w6 ⟨a6, c6, L6, rfl, hs6, hp6, ho6, b6⟩; have hb6 := hb5.trans (b6.mono hb5.size)) | (go_at_call 53; refine (HO1.out _ HD0.out).mono ?_; rintro e w5 ⟨a5, c5, L5, rfl, hs5, hp5, ho5, b5⟩; have hb5 := HD0.out.trans (b5.mono HD0.out.size)))
    have HF : Hid (r = true ↔ (L.map attrOf).Perm (L2.map attrOf)) := Lib.hid (hr7.trans (sorted_iff HL.out.1.symm HL.out.2.symm hp5 hp6 ho5 ho6))
    have HB7 := Lib.hid hb7
    clear hb5 hb6 hb7 b5 b6 b7 hs5 hs6 hp5 hp6 ho5 ho6 hr7
    go_wp2
    go_ret
    exact ⟨r, rfl, ⟨fun h => ⟨rfl, rfl, rfl, HF.out.1 h⟩, fun h => HF.out.2 h.2.2.2⟩, HV.out.2.1.trans (HB7.out.mono HV.out.2.1.size)⟩
  · have HNE : Hid (¬ EqD (Nd.c ⟨k, nm, da, dc, data, aa, ac, L, sl, ge⟩) (Nd.c ⟨k2, nm2, da2, dc2, data2, aa2, ac2, L2, sl2, ge2⟩)) := Lib.hid (EqD.no (fun h => hall (by
      obtain ⟨h1, h2, h3, h4⟩ := h
      simp only [Nd.c, List.length_map] at h4
      exact ⟨h1, h2, h3, by rw [HL.out.1, HL.out.2, h4]⟩)))
    have HB := Lib.hid HV.out.2.1
    rw [hV] at HB HE
    obtain ⟨r, hr⟩ : ∃ r, r = decide (data = data2) := ⟨_, rfl⟩
    rw [← hr] at HE
    clear bM bN
    by_cases hk : k = k2
    · subst hk
      by_cases hn : nm = nm2
      · subst hn
        cases r with
        | false =>
          clear hall hr hV
          go_enter Try.func17, Try.ntmps17
          go_wp2_with (go_at_call 52; refine HE.out.mono ?_; rintro e w2 ⟨rfl, kk, rfl⟩)
          all_goals go_ret
          all_goals exact ⟨false, rfl, ⟨fun h => absurd h (by simp), fun h => absurd h HNE.out⟩, by repeat (first | exact HB.out | exact HB.out.size | refine below_dN ?_ ?_ _)⟩
        | true =>
          have hnn : ¬ n = n2 := fun h => hall ⟨rfl, rfl, of_decide_eq_true hr.symm, h⟩
          have q : ((n : Int) != (n2 : Int)) = true := by simp; omega
          clear hall hr hV hnn
          go_enter Try.func17, Try.ntmps17
          go_wp2_with (go_at_call 52; refine HE.out.mono ?_; rintro e w2 ⟨rfl, kk, rfl⟩)
          all_goals go_ret
          all_goals exact ⟨false, rfl, ⟨fun h => absurd h (by simp), fun h => absurd h HNE.out⟩, by repeat (first | exact HB.out | exact HB.out.size | refine below_dN ?_ ?_ _)⟩
      · have e2 : (nm.toList == nm2.toList) = false := ba_ne hn
        have e1 : (nm.toList != nm2.toList) = true := by rw [bne, e2]; rfl
        clear hall hr hV hn
        go_enter Try.func17, Try.ntmps17
        go_wp2_with fail
        all_goals go_ret
        all_goals exact ⟨false, rfl, ⟨fun h => absurd h (by simp), fun h => absurd h HNE.out⟩, by repeat (first | exact HB.out | exact HB.out.size | refine below_dN ?_ ?_ _)⟩
    · have q : (k != k2) = true := by simp; exact hk
      clear hall hr hV hk
      go_enter Try.func17, Try.ntmps17
      go_wp2_with fail
      all_goals go_ret
      all_goals exact ⟨false, rfl, ⟨fun h => absurd h (by simp), fun h => absurd h HNE.out⟩, by repeat (first | exact HB.out | exact HB.out.size | refine below_dN ?_ ?_ _)⟩
end Go.Proofs.Ytelhnaphkbpakaa

