/- The program's spread: each that is not frozen is told its target. -/
import Derived.Test.YtohmmkkbfiembaaFw3
import Derived.Deep.DeepCutAuto
namespace Go.Proofs.Ytohmmkkbfiembaa
open Go.RowKit Go.Shelf
attribute [local go_sem] Oper.semAt_some
attribute [local go_sem] run_store_float
set_option linter.unusedVariables false
set_option maxRecDepth 100000

theorem abs_calls (w : World) (x : Nat) (h64 : x < 18446744073709551616) : Calls Try.prog 45 #[fl x] w fun e w' => e = .returned (fl (absD x)) ∧ w = w' := by
  have e1 := andNot_high x h64
  have hr : absD x = x % 9223372036854775808 := rfl
  obtain ⟨m, hm⟩ : ∃ m, m = x % 9223372036854775808 := ⟨_, rfl⟩
  rw [← hm] at e1 hr
  rw [hr]
  clear hm hr h64
  go_enter Try.func45, Try.ntmps45
  go_wp2
  rw [run_callFunc_extern Try.func49 (by kernel_rfl) (by kernel_rfl) (by kernel_rfl) (e := Extern.MathFloatBits.float64bits) (by kernel_rfl), run_fbits]
  simp only [Result.andThen]
  rw [Oper.upon_value]
  go_wp2
  rw [run_callFunc_extern Try.func64 (by kernel_rfl) (by kernel_rfl) (by kernel_rfl) (e := Extern.MathFloatBits.float64frombits) (by kernel_rfl), run_ffrom]
  simp only [Result.andThen]
  rw [Oper.upon_value]
  go_wp2
  go_ret
  exact ⟨rfl, rfl⟩

theorem Onl.fl {P : Nat → Prop} {w w' : World} (h : Onl P w w') {b n : Nat} {f : Nat → Nat} (hf : Fl w b n f) (hb : ¬ P b) : Fl w' b n f := h.block b _ hb hf
theorem Onl.bl {P : Nat → Prop} {w w' : World} (h : Onl P w w') {b n : Nat} {f : Nat → Bool} (hf : Bl w b n f) (hb : ¬ P b) : Bl w' b n f := h.block b _ hb hf
theorem Onl.cell {P : Nat → Prop} {w w' : World} (h : Onl P w w') {b i : Nat} {v : Value} (hc : w.cell? ⟨b, i, none⟩ = some v) (hb : ¬ P b) : w'.cell? ⟨b, i, none⟩ = some v := by
  have hl := cell_lt' hc
  have e : w.heap[b]? = some w.heap[b] := Array.getElem?_eq_getElem hl
  have e2 := h.block b _ hb e
  simp only [World.cell?] at hc ⊢
  rw [e] at hc
  rw [e2]
  exact hc
/-- Where all lies while room is shared out; sz, ov: the sizes, what they are over. -/
structure ShL (w : World) (s : Shr) (lb hb sb ob lo hi bs fc sz ov : Nat) : Prop where
  c0 : w.cell? ⟨lb, 0, none⟩ = some (.slice (some ⟨lo, 0, none⟩) s.n s.n)
  c1 : w.cell? ⟨hb, 0, none⟩ = some (.slice (some ⟨hi, 0, none⟩) s.n s.n)
  c2 : w.cell? ⟨sb, 0, none⟩ = some (.slice (some ⟨sz, 0, none⟩) s.n s.n)
  c3 : w.cell? ⟨ob, 0, none⟩ = some (.slice (some ⟨ov, 0, none⟩) s.n s.n)
  h0 : Fl w lo s.n s.lo
  h1 : Fl w hi s.n s.hi
  h4 : Fl w bs s.n s.Bs
  h5 : Fl w fc s.n s.fac
  d : ∀ k, k ∈ [lb, hb, sb, ob, lo, hi, bs, fc] → k ≠ sz ∧ k ≠ ov
  ne : sz ≠ ov
theorem ShL.onl {w w' : World} {s : Shr} {lb hb sb ob lo hi bs fc sz ov : Nat} (h : ShL w s lb hb sb ob lo hi bs fc sz ov) (o : Onl (fun k => k = sz ∨ k = ov) w w') : ShL w' s lb hb sb ob lo hi bs fc sz ov := by
  have hn : ∀ k, k ∈ [lb, hb, sb, ob, lo, hi, bs, fc] → ¬ (k = sz ∨ k = ov) := fun k hk hc => by
    have := h.d k hk
    rcases hc with e | e
    · exact this.1 e
    · exact this.2 e
  exact ⟨o.cell h.c0 (hn _ (by simp)), o.cell h.c1 (hn _ (by simp)), o.cell h.c2 (hn _ (by simp)), o.cell h.c3 (hn _ (by simp)), o.fl h.h0 (hn _ (by simp)), o.fl h.h1 (hn _ (by simp)), o.fl h.h4 (hn _ (by simp)), o.fl h.h5 (hn _ (by simp)), h.d, h.ne⟩

theorem bl_not_fl {w : World} {b n m : Nat} {f : Nat → Bool} {g : Nat → Nat} (h : Bl w b n f) : ¬ Fl w b m g := fun k => by
  unfold Bl at h
  unfold Fl at k
  rw [h] at k
  simp at k
section
variable {s : Shr} {Sz : Nat → Nat} {Fz : Nat → Bool} {i : Nat}
theorem stepS (hz : Fz i = true) (j : Nat) : (if j < i then s.turnS Sz Fz j else Sz j) = (if j < i + 1 then s.turnS Sz Fz j else Sz j) := by
  by_cases e : j = i
  · subst e
    rw [if_neg (Nat.lt_irrefl _), if_pos (Nat.lt_succ_self _)]
    unfold Shr.turnS
    rw [if_pos hz]
  · by_cases h : j < i
    · have h2 : j < i + 1 := by omega
      rw [if_pos h, if_pos h2]
    · have h2 : ¬ j < i + 1 := by omega
      rw [if_neg h, if_neg h2]
theorem stepO (hz : Fz i = true) (j : Nat) : (if j < i then (if Fz j = true then 0 else s.over Sz Fz j) else 0) = (if j < i + 1 then (if Fz j = true then 0 else s.over Sz Fz j) else 0) := by
  by_cases e : j = i
  · subst e
    rw [if_neg (Nat.lt_irrefl _), if_pos (Nat.lt_succ_self _), if_pos hz]
  · by_cases h : j < i
    · have h2 : j < i + 1 := by omega
      rw [if_pos h, if_pos h2]
    · have h2 : ¬ j < i + 1 := by omega
      rw [if_neg h, if_neg h2]
theorem nextS (hz : Fz i = false) (j : Nat) : (if j = i then btwD (s.lo i) (s.targ Sz Fz i) (s.hi i) else (if j < i then s.turnS Sz Fz j else Sz j)) = (if j < i + 1 then s.turnS Sz Fz j else Sz j) := by
  by_cases e : j = i
  · subst e
    rw [if_pos rfl, if_pos (Nat.lt_succ_self _)]
    unfold Shr.turnS
    rw [hz, if_neg (by decide)]
    rfl
  · rw [if_neg e]
    by_cases h : j < i
    · have h2 : j < i + 1 := by omega
      rw [if_pos h, if_pos h2]
    · have h2 : ¬ j < i + 1 := by omega
      rw [if_neg h, if_neg h2]
theorem nextO (hz : Fz i = false) (j : Nat) : (if j = i then s.over Sz Fz i else (if j < i then (if Fz j = true then 0 else s.over Sz Fz j) else 0)) = (if j < i + 1 then (if Fz j = true then 0 else s.over Sz Fz j) else 0) := by
  by_cases e : j = i
  · subst e
    rw [if_pos rfl, if_pos (Nat.lt_succ_self _), hz, if_neg (by decide)]
  · rw [if_neg e]
    by_cases h : j < i
    · have h2 : j < i + 1 := by omega
      rw [if_pos h, if_pos h2]
    · have h2 : ¬ j < i + 1 := by omega
      rw [if_neg h, if_neg h2]
end
def tellF (lb hb sb ob : Nat) : Value := .func (.func 28) #[] #[.pointer (some ⟨lb, 0, none⟩), .pointer (some ⟨hb, 0, none⟩), .pointer (some ⟨sb, 0, none⟩), .pointer (some ⟨ob, 0, none⟩)]
set_option maxHeartbeats 4000000 in
theorem spread_calls (w : World) {s : Shr} (K : ShK s) {Sz : Nat → Nat} {Fz : Nat → Bool} (S : ShS s Sz Fz) {lb hb sb ob lo hh bs fc sz ov fz : Nat} (h : ShL w s lb hb sb ob lo hh bs fc sz ov)
    (h2 : Fl w sz s.n Sz) (h3 : Fl w ov s.n (fun _ => 0)) (h6 : Bl w fz s.n Fz) :
    Calls Try.prog 27 #[fl (leftF s.room Sz s.Bs Fz s.n), fl s.first, .bool s.growing, .slice (some ⟨bs, 0, none⟩) s.n s.n, .slice (some ⟨fc, 0, none⟩) s.n s.n, .slice (some ⟨fz, 0, none⟩) s.n s.n,
      .func (.func 28) #[] #[.pointer (some ⟨lb, 0, none⟩), .pointer (some ⟨hb, 0, none⟩), .pointer (some ⟨sb, 0, none⟩), .pointer (some ⟨ob, 0, none⟩)]] w
      fun e w' => e = .returned (.tuple #[]) ∧ Fl w' sz s.n (s.turnS Sz Fz) ∧ Fl w' ov s.n (fun j => if Fz j = true then 0 else s.over Sz Fz j) ∧ Onl (fun k => k = sz ∨ k = ov) w w' := by
  have HK := Lib.hid K
  have HS := Lib.hid S
  have H := Lib.hid h
  have H2 := Lib.hid (And.intro h2 (And.intro h3 h6))
  have HN := Lib.hid K.n
  obtain ⟨n, hn⟩ : ∃ n, n = s.n := ⟨_, rfl⟩
  obtain ⟨lf, hlf⟩ : ∃ x, x = leftF s.room Sz s.Bs Fz s.n := ⟨_, rfl⟩
  obtain ⟨fi, hfi⟩ : ∃ x, x = s.first := ⟨_, rfl⟩
  obtain ⟨g, hg⟩ : ∃ x, x = s.growing := ⟨_, rfl⟩
  rw [← hlf, ← hfi, ← hg]
  rw [← hn] at HN ⊢
  have HE := Lib.hid (And.intro hn (And.intro hlf (And.intro hfi hg)))
  have HF : Hid (∀ i, i < n → Fz i = false → Ieee.double.add (facF s.fac Fz i) (s.fac i) = some (facF s.fac Fz (i + 1))) := Lib.hid (fun i hi hz => by
    have := K.facF_step (Fz := Fz) (i := i) (by omega)
    rw [this]
    show _ = some (if Fz i = true then _ else _)
    rw [hz, if_neg (by decide)])
  have HP : Hid (∀ i, i < n → Ieee.double.mul (s.fac i) (s.Bs i) = some (mulD (s.fac i) (s.Bs i))) := Lib.hid (fun i hi => (K.prod (i := i) (by omega)).1)
  have HQ : Hid (∀ i, i < n → Fz i = false → Ieee.double.add (facQ s.fac s.Bs Fz i) (mulD (s.fac i) (s.Bs i)) = some (facQ s.fac s.Bs Fz (i + 1))) := Lib.hid (fun i hi hz => by
    have := K.facQ_step (Fz := Fz) (i := i) (by omega)
    rw [this]
    show _ = some (if Fz i = true then _ else _)
    rw [hz, if_neg (by decide)])
  have HSK : Hid (∀ i, Fz i = true → facF s.fac Fz (i + 1) = facF s.fac Fz i ∧ facQ s.fac s.Bs Fz (i + 1) = facQ s.fac s.Bs Fz i) := Lib.hid (fun i hz => by
    constructor
    · show (if Fz i = true then _ else _) = _
      rw [if_pos hz]
    · show (if Fz i = true then _ else _) = _
      rw [if_pos hz])
  obtain ⟨A, hA⟩ : ∃ A, A = facF s.fac Fz := ⟨_, rfl⟩
  obtain ⟨B, hB⟩ : ∃ B, B = facQ s.fac s.Bs Fz := ⟨_, rfl⟩
  have hA0 : A 0 = 0 := by rw [hA]; rfl
  have hB0 : B 0 = 0 := by rw [hB]; rfl
  rw [← hA] at HF HSK
  rw [← hB] at HQ HSK
  have HAB := Lib.hid (And.intro hA hB)
  clear K S h h2 h3 h6 hn hlf hfi hg hA hB
  go_enter Try.func27, Try.ntmps27
  go_wp2
  go_loopg [14, 15, 22] n (fun m v14 v15 u wr => ∃ i : Nat, u = .int .i64 (i : Int) ∧ v14 = fl (A i) ∧ v15 = fl (B i) ∧ Hid (i + m = n ∧ Onl (fun _ => False) w wr))
  case atStart => exact ⟨0, rfl, by rw [hA0], by rw [hB0], Lib.hid ⟨by omega, Onl.refl _ _⟩⟩
  case round =>
    obtain ⟨i, rfl, rfl, rfl, hw⟩ := hrel
    have hsum := hw.out.1
    have HO := Lib.hid hw.out.2
    clear hw
    have hn := HN.out
    have q0 : IntKind.i64.wrap ((i : Int) + 1) = (i : Int) + 1 := IntWalk.i64_in _ (by omega)
    by_cases hi : i < n
    · have HM : Hid (gk - 1 < gk) := Lib.hid (by omega)
      have HSM : Hid (i + 1 + (gk - 1) = n) := Lib.hid (by omega)
      have his : i < s.n := by rw [← HE.out.1]; exact hi
      have x6 := (HO.out.bl H2.out.2.2 id).cell his
      have x4 := (HO.out.fl H.out.h4 id).cell his
      have x5 := (HO.out.fl H.out.h5 id).cell his
      clear his
      cases hz : Fz i with
      | true =>
        have hs := HSK.out i hz
        rw [hz] at x6
        clear hz
        go_wp2_with fail
        go_roundg (gk - 1)
        case measure => exact HM.out
        case rel => exact ⟨i + 1, by go_num, by rw [hs.1], by rw [hs.2], Lib.hid ⟨HSM.out, HO.out⟩⟩
      | false =>
        have o1 := hadd (HF.out i hi hz)
        have o2 := hmul (HP.out i hi)
        have o3 := hadd (HQ.out i hi hz)
        rw [hz] at x6
        clear hz
        go_wp2_with (simp only [o1])
        go_quiet (first | simp only [o2] | simp only [o3])
        go_wp2_with fail
        go_roundg (gk - 1)
        case measure => exact HM.out
        case rel => exact ⟨i + 1, by go_num, rfl, rfl, Lib.hid ⟨HSM.out, HO.out.drewN _⟩⟩
    · have hin : i = n := by omega
      rw [hin]
      clear hi hsum hin
      obtain ⟨P, hP⟩ : ∃ P, P = mulD fi (A n) := ⟨_, rfl⟩
      have o8 : ∀ t w, (binOp .mul t (fl fi) (fl (A n))).run Try.prog w = .ok (fl P) w := hmul (by rw [hP, HAB.out.1, HE.out.2.2.1, HE.out.1]; exact HK.out.part.1)
      have hP64 : P < 18446744073709551616 := by rw [hP, HAB.out.1, HE.out.2.2.1, HE.out.1]; exact HK.out.part.2.1
      have hl64 : lf < 18446744073709551616 := by rw [HE.out.2.1]; exact (HK.out.left HS.out).1
      have HAP := Lib.hid (fun W => abs_calls W P hP64)
      have HAL := Lib.hid (fun W => abs_calls W lf hl64)
      obtain ⟨P1, hP1⟩ : ∃ x, x = absD P := ⟨_, rfl⟩
      obtain ⟨L1, hL1⟩ : ∃ x, x = absD lf := ⟨_, rfl⟩
      rw [← hP1] at HAP
      rw [← hL1] at HAL
      obtain ⟨b1, hb1⟩ : ∃ b, (FloatKind.f64.format.order (A n) 4607182418800017408 == some .lt) = b := ⟨_, rfl⟩
      obtain ⟨b2, hb2⟩ : ∃ b, (FloatKind.f64.format.order P1 L1 == some .lt) = b := ⟨_, rfl⟩
      obtain ⟨R, hR⟩ : ∃ R, R = (if (b1 && b2) = true then P else lf) := ⟨_, rfl⟩
      have HRS : Hid (R = s.rest Sz Fz) := Lib.hid (by
        rw [hR, ← hb1, ← hb2, hP1, hL1, hP, HAB.out.1, HE.out.2.1, HE.out.2.2.1, HE.out.1]
        rfl)
      have HRR := Lib.hid hR
      clear hP hP64 hl64 hP1 hL1 hR
      go_upto_region 9 with (simp only [o8])
      go_cut [59] (fun v wc => v = .bool (b1 && b2) ∧ wr = wc)
      case first =>
        cases b1 with
        | true =>
          go_wp2_with (first | (have hh := g1; go_at_call 45; refine (HAL.out _).mono ?_; rintro e w1 ⟨rfl, rfl⟩) | (go_at_call 45; refine (HAP.out _).mono ?_; rintro e w1 ⟨rfl, rfl⟩; have g1 : True := trivial))
          go_meet
          exact ⟨by simp, rfl⟩
        | false =>
          go_wp2_with fail
          go_meet
          exact ⟨rfl, rfl⟩
      case rest =>
        obtain ⟨rfl, rfl⟩ := hcut
        obtain ⟨b, hb⟩ : ∃ b, b = (b1 && b2) := ⟨_, rfl⟩
        rw [← hb] at HRR ⊢
        clear hb hb1 hb2 HAP HAL o8
        go_upto_if 59 with fail
        go_cut [0] (fun v0 wc => v0 = fl R ∧ wr = wc)
        case first =>
          have hR := HRR.out
          cases b with
          | true =>
            rw [if_pos rfl] at hR
            subst hR
            go_wp2_with fail
            go_meet
            exact ⟨rfl, rfl⟩
          | false =>
            rw [if_neg (by decide)] at hR
            subst hR
            go_wp2_with fail
            go_meet
            exact ⟨rfl, rfl⟩
        case rest =>
          obtain ⟨rfl, rfl⟩ := hcut
          clear HRR HF HP HQ HSK
          have HA : Hid (A n = facF s.fac Fz s.n ∧ B n = facQ s.fac s.Bs Fz s.n) := Lib.hid ⟨by rw [HAB.out.1, HE.out.1], by rw [HAB.out.2, HE.out.1]⟩
          obtain ⟨An, hAn⟩ : ∃ x, x = A n := ⟨_, rfl⟩
          obtain ⟨Bn, hBn⟩ : ∃ x, x = B n := ⟨_, rfl⟩
          rw [← hAn, ← hBn] at HA
          try rw [← hAn]
          try rw [← hBn]
          clear hAn hBn hA0 hB0 HAB
          have HTG : Hid (∀ i, i < n → Fz i = false → TgOk g R An Bn (s.Bs i) (s.fac i) ∧ s.targ Sz Fz i = targD g R An Bn (s.Bs i) (s.fac i)) := Lib.hid (fun i hi hz => by
            have := HK.out.targ HS.out (i := i) (by rw [← HE.out.1]; exact hi) hz
            rw [HRS.out, HE.out.2.2.2, HA.out.1, HA.out.2]
            exact ⟨this, rfl⟩)
          have HW0 := Lib.hid (HO.out.mono (P' := fun k => k = sz ∨ k = ov) (fun k hk => hk.elim))
          have g2 : Fl wr sz n Sz := by rw [HE.out.1]; exact HO.out.fl H2.out.1 id
          have g3 : Fl wr ov n (fun _ => 0) := by rw [HE.out.1]; exact HO.out.fl H2.out.2.1 id
          have HG := Lib.hid (And.intro g2 g3)
          clear g2 g3 HO
          obtain ⟨w0, hw0⟩ : ∃ x, x = wr := ⟨_, rfl⟩
          go_wp2_with fail
          rw [← hw0]
          rw [← hw0] at HG HW0
          clear hw0
          go_loopg [63] n (fun m u wr => ∃ i : Nat, u = .int .i64 (i : Int) ∧ Hid (i + m = n ∧ Onl (fun k => k = sz ∨ k = ov) w wr) ∧ Fl wr sz n (fun j => if j < i then s.turnS Sz Fz j else Sz j) ∧ Fl wr ov n (fun j => if j < i then (if Fz j = true then 0 else s.over Sz Fz j) else 0))
          case atStart => exact ⟨0, rfl, Lib.hid ⟨by omega, HW0.out⟩, HG.out.1.congr (fun j _ => by simp), HG.out.2.congr (fun j _ => by simp)⟩
          case round =>
            obtain ⟨i, rfl, hw, hs, ho⟩ := hrel
            have hsum := hw.out.1
            have HO := Lib.hid hw.out.2
            have HX := Lib.hid (And.intro hs ho)
            clear hw hs ho
            have hn := HN.out
            have q0 : IntKind.i64.wrap ((i : Int) + 1) = (i : Int) + 1 := IntWalk.i64_in _ (by omega)
            by_cases hi : i < n
            · have HM : Hid (gk - 1 < gk) := Lib.hid (by omega)
              have HSM : Hid (i + 1 + (gk - 1) = n) := Lib.hid (by omega)
              have his : i < s.n := by rw [← HE.out.1]; exact hi
              have hL := H.out.onl HO.out
              have x6 := (HO.out.bl H2.out.2.2 (fun hc => by rcases hc with e | e; exact absurd H2.out.1 (bl_not_fl (by rw [← e]; exact H2.out.2.2)); exact absurd H2.out.2.1 (bl_not_fl (by rw [← e]; exact H2.out.2.2)))).cell his
              have x4 := hL.h4.cell his
              have x5 := hL.h5.cell his
              cases hz : Fz i with
              | true =>
                rw [hz] at x6
                have hz' := Lib.hid hz
                clear hz hL
                go_wp2_with fail
                go_roundg (gk - 1)
                case measure => exact HM.out
                case rel => exact ⟨i + 1, by go_num, Lib.hid ⟨HSM.out, HO.out⟩, HX.out.1.congr (fun j hj => stepS hz'.out j), HX.out.2.congr (fun j hj => stepO hz'.out j)⟩
              | false =>
                rw [hz] at x6
                obtain ⟨tg, htv⟩ := HTG.out i hi hz
                have hov := HK.out.over HS.out his hz
                have hnl := And.intro (HK.out.lo i his) (HK.out.hi i his)
                obtain ⟨T, hT⟩ : ∃ T, T = targD g R An Bn (s.Bs i) (s.fac i) := ⟨_, rfl⟩
                rw [← hT] at htv
                have HT : Hid (∀ X, Onl (fun k => k = sz ∨ k = ov) wr X → X.heap = wr.heap → Calls Try.prog 28 #[.int .i64 (i : Int), fl T, .pointer (some ⟨lb, 0, none⟩), .pointer (some ⟨hb, 0, none⟩), .pointer (some ⟨sb, 0, none⟩), .pointer (some ⟨ob, 0, none⟩)] X fun e w' => e = .returned (.tuple #[]) ∧ Fl w' sz n (fun j => if j < i + 1 then s.turnS Sz Fz j else Sz j) ∧ Fl w' ov n (fun j => if j < i + 1 then (if Fz j = true then 0 else s.over Sz Fz j) else 0) ∧ Onl (fun k => k = sz ∨ k = ov) X w') := Lib.hid (fun X o hX => by
                  have hl := hL.onl o
                  have k1 : Fl X sz s.n (fun j => if j < i then s.turnS Sz Fz j else Sz j) := by unfold Fl; rw [hX, ← HE.out.1]; exact HX.out.1
                  have k2 : Fl X ov s.n (fun j => if j < i then (if Fz j = true then 0 else s.over Sz Fz j) else 0) := by unfold Fl; rw [hX, ← HE.out.1]; exact HX.out.2
                  have hd := fun k hk => hl.d k hk
                  refine (tell_calls X (o := s.over Sz Fz i) his hnl.1 hnl.2 (t := T) (by rw [hT]; exact tg.num) (by rw [← htv]; exact hov.1) hl.c0 hl.c1 hl.c2 hl.c3 hl.h0 hl.h1 k1 k2 ⟨Ne.symm (hd lb (by simp)).1, Ne.symm (hd hb (by simp)).1, Ne.symm (hd sb (by simp)).1, Ne.symm (hd ob (by simp)).1, Ne.symm (hd lo (by simp)).1, Ne.symm (hd hh (by simp)).1, hl.ne⟩ ⟨Ne.symm (hd lb (by simp)).2, Ne.symm (hd hb (by simp)).2, Ne.symm (hd sb (by simp)).2, Ne.symm (hd ob (by simp)).2, Ne.symm (hd lo (by simp)).2, Ne.symm (hd hh (by simp)).2⟩).mono ?_
                  rintro e w' ⟨rfl, r1, r2, r3⟩
                  refine ⟨rfl, ?_, ?_, r3⟩
                  · rw [← HE.out.1] at r1
                    exact r1.congr (fun j _ => by rw [← htv]; exact nextS hz j)
                  · rw [← HE.out.1] at r2
                    exact r2.congr (fun j _ => nextO hz j))
                have HTG1 := Lib.hid tg
                have HTT := Lib.hid hT
                obtain ⟨bi, hbi⟩ : ∃ x, x = s.Bs i := ⟨_, rfl⟩
                obtain ⟨fa, hfa⟩ : ∃ x, x = s.fac i := ⟨_, rfl⟩
                rw [← hbi] at x4 HTG1 HTT
                rw [← hfa] at x5 HTG1 HTT
                obtain ⟨e0, he0⟩ : ∃ b, (FloatKind.f64.format.order R 0 == some .eq) = b := ⟨_, rfl⟩
                have he0' : eqD R 0 = e0 := he0
                clear htv hov hnl hT tg hz hL hbi hfa his
                cases e0 with
                | true =>
                  have ht := HTT.out
                  unfold targD at ht
                  rw [he0', if_pos rfl] at ht
                  subst ht
                  clear he0'
                  go_wp2_with (go_at_call 28; refine (HT.out _ (Onl.refl _ _) rfl).mono ?_; rintro e w1 ⟨rfl, r1, r2, r3⟩; have HR := Lib.hid (And.intro r1 (And.intro r2 r3)); clear r1 r2 r3)
                  go_roundg (gk - 1)
                  case measure => exact HM.out
                  case rel => exact ⟨i + 1, by go_num, Lib.hid ⟨HSM.out, HO.out.trans HR.out.2.2⟩, HR.out.1, HR.out.2.1⟩
                | false =>
                  cases g with
                  | true =>
                    have ht := HTT.out
                    unfold targD at ht
                    rw [he0', if_neg (by decide), if_pos rfl] at ht
                    have o1 := hquo (HTG1.out.g1 rfl he0')
                    have o2 := hmul (HTG1.out.g2 rfl he0')
                    have o3 := hadd (HTG1.out.g3 rfl he0')
                    rw [← ht] at o3
                    clear ht he0'
                    go_wp2_with fail
                    go_quiet (first | simp only [o1] | simp only [o2] | simp only [o3])
                    go_wp2_with (go_at_call 28; refine (HT.out _ ((Onl.refl _ _).drewN _) rfl).mono ?_; rintro e w1 ⟨rfl, r1, r2, r3⟩; have HR := Lib.hid (And.intro r1 (And.intro r2 r3)); clear r1 r2 r3)
                    go_roundg (gk - 1)
                    case measure => exact HM.out
                    case rel => exact ⟨i + 1, by go_num, Lib.hid ⟨HSM.out, (HO.out.drewN _).trans HR.out.2.2⟩, HR.out.1, HR.out.2.1⟩
                  | false =>
                    obtain ⟨e1, he1⟩ : ∃ b, (FloatKind.f64.format.order Bn 0 == some .eq) = b := ⟨_, rfl⟩
                    have he1' : eqD Bn 0 = e1 := he1
                    have he2 : (FloatKind.f64.format.order Bn 0 != some .eq) = !e1 := by rw [← he1]; rfl
                    have ht := HTT.out
                    unfold targD at ht
                    rw [he0', he1', if_neg (by decide), if_neg (by decide)] at ht
                    clear he1
                    cases e1 with
                    | true =>
                      rw [if_pos rfl] at ht
                      subst ht
                      clear he0' he1'
                      go_wp2_with (go_at_call 28; refine (HT.out _ (Onl.refl _ _) rfl).mono ?_; rintro e w1 ⟨rfl, r1, r2, r3⟩; have HR := Lib.hid (And.intro r1 (And.intro r2 r3)); clear r1 r2 r3)
                      go_roundg (gk - 1)
                      case measure => exact HM.out
                      case rel => exact ⟨i + 1, by go_num, Lib.hid ⟨HSM.out, HO.out.trans HR.out.2.2⟩, HR.out.1, HR.out.2.1⟩
                    | false =>
                      rw [if_neg (by decide)] at ht
                      have o0 := hmul (HTG1.out.s1)
                      have o1 := hquo (HTG1.out.s2 he0' he1')
                      have o2 := hmul (HTG1.out.s3 he0' he1')
                      have o3 := hsub (HTG1.out.s4 he0' he1')
                      rw [← ht] at o3
                      clear ht he0' he1'
                      have hR64 : R < 18446744073709551616 := by rw [HRS.out]; exact HK.out.rest64 HS.out
                      have HAB := Lib.hid (fun W => abs_calls W R hR64)
                      go_wp2_with fail
                      go_region_held3 (fun W => W.cell? ⟨bs, i, none⟩ = some (fl bi) ∧ W.cell? ⟨fc, i, none⟩ = some (fl fa)) (first | exact ⟨x4, x5⟩) (first | (go_at_call 45; refine (HAB.out _).mono ?_; rintro e w1 ⟨rfl, rfl⟩))
                      go_wp2_with (go_at_call 28; refine (HT.out _ (Onl.refl _ _).drew rfl).mono ?_; rintro e w1 ⟨rfl, r1, r2, r3⟩; have HR := Lib.hid (And.intro r1 (And.intro r2 r3)); clear r1 r2 r3)
                      go_roundg (gk - 1)
                      case measure => exact HM.out
                      case rel => exact ⟨i + 1, by go_num, Lib.hid ⟨HSM.out, (HO.out.drew).trans HR.out.2.2⟩, HR.out.1, HR.out.2.1⟩
            · have hin : i = n := by omega
              have hs := HX.out.1
              have ho := HX.out.2
              rw [hin] at hs ho
              go_wp2_with fail
              go_end0
              exact ⟨rfl, hs.congr (fun j hj => by rw [if_pos hj]), ho.congr (fun j hj => by rw [if_pos hj]), HO.out⟩
end Go.Proofs.Ytohmmkkbfiembaa
