/- The document's turn. -/
import Derived.Test.YtohmmkkbfiembaaFr2
import Derived.Test.YtohmmkkbfiembaaFv1
namespace Go.Proofs.Ytohmmkkbfiembaa
open Go.RowKit Go.Shelf
attribute [local go_sem] Oper.semAt_some
attribute [local go_sem] run_store_float
set_option linter.unusedVariables false
set_option maxRecDepth 100000

theorem Onl.flg {P : Nat → Prop} {w w' : World} (h : Onl P w w') {b n : Nat} {f : Nat → Nat} (hf : FlG w b n f) (hb : ¬ P b) : FlG w' b n f := hf.keep (fun o ho => h.block b o hb ho)
theorem Onl.blg {P : Nat → Prop} {w w' : World} (h : Onl P w w') {b n : Nat} {f : Nat → Bool} (hf : BlG w b n f) (hb : ¬ P b) : BlG w' b n f := hf.keep (fun o ho => h.block b o hb ho)
/-- The share as it lies. -/
structure ShM (w : World) (s : Shr) (sp bs fc lo hi sz ov fz cb cf cl ch cs co cz : Nat) (az af : Option Addr) : Prop where
  cell : w.heap[sp]? = some (.cells #[fl s.room, fl s.first, .bool s.growing, .slice (some ⟨bs, 0, none⟩) s.n cb, .slice (some ⟨fc, 0, none⟩) s.n cf, .slice (some ⟨lo, 0, none⟩) s.n cl, .slice (some ⟨hi, 0, none⟩) s.n ch, .slice az s.n cs, .slice (some ⟨ov, 0, none⟩) s.n co, .slice af s.n cz] 62 (0, 0))
  h4 : FlG w bs s.n s.Bs
  h5 : FlG w fc s.n s.fac
  h0 : FlG w lo s.n s.lo
  h1 : FlG w hi s.n s.hi
  d : ∀ k, k ∈ [sp, bs, fc, lo, hi] → k ≠ sz ∧ k ≠ ov ∧ k ≠ fz
  ne : sz ≠ ov ∧ sz ≠ fz ∧ ov ≠ fz
  pz : 0 < s.n → az = some ⟨sz, 0, none⟩ ∧ af = some ⟨fz, 0, none⟩
theorem ShM.onl {w w' : World} {s : Shr} {sp bs fc lo hi sz ov fz cb cf cl ch cs co cz : Nat} {az af : Option Addr} (h : ShM w s sp bs fc lo hi sz ov fz cb cf cl ch cs co cz az af) (o : Onl (fun k => k = sz ∨ k = ov ∨ k = fz) w w') : ShM w' s sp bs fc lo hi sz ov fz cb cf cl ch cs co cz az af := by
  have hn : ∀ k, k ∈ [sp, bs, fc, lo, hi] → ¬ (k = sz ∨ k = ov ∨ k = fz) := fun k hk hc => by
    have := h.d k hk
    rcases hc with e | e | e
    · exact this.1 e
    · exact this.2.1 e
    · exact this.2.2 e
  exact ⟨o.block _ _ (hn _ (by simp)) h.cell, o.flg h.h4 (hn _ (by simp)), o.flg h.h5 (hn _ (by simp)), o.flg h.h0 (hn _ (by simp)), o.flg h.h1 (hn _ (by simp)), h.d, h.ne, h.pz⟩
def ovF (s : Shr) (Sz : Nat → Nat) (Fz : Nat → Bool) (O : Nat → Nat) (i j : Nat) : Nat := if j < i then (if Fz j = true then O j else s.over Sz Fz j) else O j
section
variable {s : Shr} {Sz : Nat → Nat} {Fz : Nat → Bool} {O : Nat → Nat} {i : Nat}
theorem ovF_skip (hz : Fz i = true) (j : Nat) : ovF s Sz Fz O i j = ovF s Sz Fz O (i + 1) j := by
  unfold ovF
  by_cases e : j = i
  · subst e; rw [if_neg (Nat.lt_irrefl _), if_pos (Nat.lt_succ_self _), if_pos hz]
  · by_cases h : j < i
    · have h2 : j < i + 1 := by omega
      rw [if_pos h, if_pos h2]
    · have h2 : ¬ j < i + 1 := by omega
      rw [if_neg h, if_neg h2]
theorem ovF_set (hz : Fz i = false) (j : Nat) : (if j = i then s.over Sz Fz i else ovF s Sz Fz O i j) = ovF s Sz Fz O (i + 1) j := by
  unfold ovF
  by_cases e : j = i
  · subst e; rw [if_pos rfl, if_pos (Nat.lt_succ_self _), hz, if_neg (by decide)]
  · rw [if_neg e]
    by_cases h : j < i
    · have h2 : j < i + 1 := by omega
      rw [if_pos h, if_pos h2]
    · have h2 : ¬ j < i + 1 := by omega
      rw [if_neg h, if_neg h2]
end

/-- Of what is frozen anew those ahead of i. -/
def mixF1 (G F : Nat → Bool) (i j : Nat) : Bool := if j < i then G j else F j
theorem mixF1_at {G F : Nat → Bool} {i : Nat} : mixF1 G F i i = F i := by unfold mixF1; rw [if_neg (Nat.lt_irrefl i)]
theorem mixF1_same {G F : Nat → Bool} {i : Nat} (h : G i = F i) (j : Nat) : mixF1 G F i j = mixF1 G F (i + 1) j := by
  unfold mixF1
  by_cases e : j = i
  · subst e; rw [if_neg (Nat.lt_irrefl _), if_pos (Nat.lt_succ_self _), h]
  · by_cases h1 : j < i
    · have h2 : j < i + 1 := by omega
      rw [if_pos h1, if_pos h2]
    · have h2 : ¬ j < i + 1 := by omega
      rw [if_neg h1, if_neg h2]
theorem mixF1_set {G F : Nat → Bool} {i : Nat} (h : G i = true) (j : Nat) : (if j = i then true else mixF1 G F i j) = mixF1 G F (i + 1) j := by
  unfold mixF1
  by_cases e : j = i
  · subst e; rw [if_pos rfl, if_pos (Nat.lt_succ_self _), h]
  · rw [if_neg e]
    by_cases h1 : j < i
    · have h2 : j < i + 1 := by omega
      rw [if_pos h1, if_pos h2]
    · have h2 : ¬ j < i + 1 := by omega
      rw [if_neg h1, if_neg h2]

theorem turnF_mono' {s : Shr} {Sz : Nat → Nat} {Fz : Nat → Bool} {i : Nat} (h : Fz i = true) : s.turnF Sz Fz i = true := by unfold Shr.turnF; rw [h]; rfl
theorem vRel1.pick1 {o : Option Nat} {v : Value} (h : vRel1 o v) : ∃ x, v = fl x ∧ (FloatKind.f64.format.order x 0 == some .gt) = posO o ∧ (FloatKind.f64.format.order x 0 == some .lt) = negO o := h.pick
set_option maxHeartbeats 20000000 in
theorem turn18_calls (w : World) {s : Shr} (K : ShK s) {Sz O : Nat → Nat} {Fz : Nat → Bool} (S : ShS s Sz Fz) {sp bs fc lo hh sz ov fz cb cf cl ch cs co cz : Nat} {az af : Option Addr} (h : ShM w s sp bs fc lo hh sz ov fz cb cf cl ch cs co cz az af)
    (h2 : FlG w sz s.n Sz) (h3 : FlG w ov s.n O) (h6 : BlG w fz s.n Fz) :
    Calls Try.prog 33 #[.pointer (some ⟨sp, 0, none⟩)] w
      fun e w' => e = .returned (.tuple #[]) ∧ FlG w' sz s.n (s.turnS Sz Fz) ∧ (∃ O', FlG w' ov s.n O') ∧ BlG w' fz s.n (s.turnF Sz Fz) ∧ Onl (fun k => k = sz ∨ k = ov ∨ k = fz) w w' := by
  have HK := Lib.hid K
  have HS := Lib.hid S
  have H := Lib.hid h
  have H2 := Lib.hid (And.intro h2 (And.intro h3 h6))
  have HN := Lib.hid K.n
  have HLEFT := Lib.hid (left18_calls w K.n K.room S.Sz K.Bs h.cell h.pz h6 h2 h.h4)
  obtain ⟨n, hn⟩ : ∃ n, n = s.n := ⟨_, rfl⟩
  obtain ⟨lf, hlf⟩ : ∃ x, x = leftF s.room Sz s.Bs Fz s.n := ⟨_, rfl⟩
  obtain ⟨fi, hfi⟩ : ∃ x, x = s.first := ⟨_, rfl⟩
  obtain ⟨g, hg⟩ : ∃ x, x = s.growing := ⟨_, rfl⟩
  rw [← hlf] at HLEFT
  rw [← hn] at HN ⊢
  have HE := Lib.hid (And.intro hn (And.intro hlf (And.intro hfi hg)))
  have HF : Hid (∀ i, i < n → Fz i = false → Ieee.double.add (facF s.fac Fz i) (s.fac i) = some (facF s.fac Fz (i + 1))) := Lib.hid (fun i hi hz => by
    have := K.facF_step (Fz := Fz) (i := i) (by omega)
    rw [this]
    show _ = some (if Fz i = true then _ else _)
    rw [hz, if_neg (by decide)])
  have HP : Hid (∀ i, i < n → Ieee.double.mul (s.fac i) (s.Bs i) = some (mulD (s.fac i) (s.Bs i))) := Lib.hid (fun i hi => (K.prod (i := i) (by omega)).1)
  have HQ : Hid (∀ i, i < n → Fz i = false → Ieee.double.add (facQ s.fac s.Bs Fz i) (mulD (s.fac i) (s.Bs i)) = some (facQ s.fac s.Bs Fz (i + 1))) := Lib.hid (fun i hi hz => by
    have := K.facQ_step (Fz := Fz) (i := i) (by omega)
    rw [this]
    show _ = some (if Fz i = true then _ else _)
    rw [hz, if_neg (by decide)])
  have HSK : Hid (∀ i, Fz i = true → facF s.fac Fz (i + 1) = facF s.fac Fz i ∧ facQ s.fac s.Bs Fz (i + 1) = facQ s.fac s.Bs Fz i) := Lib.hid (fun i hz => by
    constructor
    · show (if Fz i = true then _ else _) = _
      rw [if_pos hz]
    · show (if Fz i = true then _ else _) = _
      rw [if_pos hz])
  have HPZ : Hid (0 < n → az = some ⟨sz, 0, none⟩ ∧ af = some ⟨fz, 0, none⟩) := Lib.hid (by rw [hn]; exact h.pz)
  have hcell := h.cell
  rw [← hn, ← hfi, ← hg] at hcell
  have HC := Lib.hid hcell
  obtain ⟨A, hA⟩ : ∃ A, A = facF s.fac Fz := ⟨_, rfl⟩
  obtain ⟨B, hB⟩ : ∃ B, B = facQ s.fac s.Bs Fz := ⟨_, rfl⟩
  have hA0 : A 0 = 0 := by rw [hA]; rfl
  have hB0 : B 0 = 0 := by rw [hB]; rfl
  rw [← hA] at HF HSK
  rw [← hB] at HQ HSK
  have HAB := Lib.hid (And.intro hA hB)
  have c7 := cell_blk hcell 7 rfl
  clear K S h h2 h3 h6 hn hlf hfi hg hA hB hcell
  go_enter Try.func33, Try.ntmps33
  go_wp2_with (go_at_call 32; refine HLEFT.out.mono ?_; rintro e w1 ⟨rfl, rfl⟩)
  go_loopg [3, 4, 5] n (fun m v14 v15 u wr => ∃ i : Nat, u = .int .i64 (i : Int) ∧ v14 = fl (A i) ∧ v15 = fl (B i) ∧ Hid (i + m = n ∧ Onl (fun _ => False) w wr))
  case atStart => exact ⟨0, rfl, by rw [hA0], by rw [hB0], Lib.hid ⟨by omega, Onl.refl _ _⟩⟩
  case round =>
    obtain ⟨i, rfl, rfl, rfl, hw⟩ := hrel
    have hsum := hw.out.1
    have HO := Lib.hid hw.out.2
    clear hw c7
    have hn := HN.out
    have q0 : IntKind.i64.wrap ((i : Int) + 1) = (i : Int) + 1 := IntWalk.i64_in _ (by omega)
    have hcw := HO.out.block _ _ id HC.out
    have c3 := cell_blk hcw 3 rfl
    have c4 := cell_blk hcw 4 rfl
    have c7 := cell_blk hcw 7 rfl
    have c9 := cell_blk hcw 9 rfl
    have c1 := cell_blk hcw 1 rfl
    clear hcw
    by_cases hi : i < n
    · obtain ⟨rfl, rfl⟩ := HPZ.out (by omega)
      have HM : Hid (gk - 1 < gk) := Lib.hid (by omega)
      have HSM : Hid (i + 1 + (gk - 1) = n) := Lib.hid (by omega)
      have his : i < s.n := by rw [← HE.out.1]; exact hi
      have x6 := (HO.out.blg H2.out.2.2 id).cell his
      have x4 := (HO.out.flg H.out.h4 id).cell his
      have x5 := (HO.out.flg H.out.h5 id).cell his
      clear his
      cases hz : Fz i with
      | true =>
        have hs := HSK.out i hz
        rw [hz] at x6
        clear hz
        go_wp2_with fail
        go_roundg (gk - 1)
        case measure => exact HM.out
        case rel => exact ⟨i + 1, by go_num, by rw [hs.1], by rw [hs.2], Lib.hid ⟨HSM.out, HO.out⟩⟩
      | false =>
        have o1 := hadd (HF.out i hi hz)
        have o2 := hmul (HP.out i hi)
        have o3 := hadd (HQ.out i hi hz)
        rw [hz] at x6
        clear hz
        go_wp2_with (simp only [o1])
        go_quiet (first | simp only [o2] | simp only [o3])
        go_wp2_with fail
        go_roundg (gk - 1)
        case measure => exact HM.out
        case rel => exact ⟨i + 1, by go_num, rfl, rfl, Lib.hid ⟨HSM.out, HO.out.drewN _⟩⟩
    · have hin : i = n := by omega
      rw [hin]
      clear hi hsum hin
      obtain ⟨P, hP⟩ : ∃ P, P = mulD fi (A n) := ⟨_, rfl⟩
      have o8 : ∀ t w, (binOp .mul t (fl fi) (fl (A n))).run Try.prog w = .ok (fl P) w := hmul (by rw [hP, HAB.out.1, HE.out.2.2.1, HE.out.1]; exact HK.out.part.1)
      have hP64 : P < 18446744073709551616 := by rw [hP, HAB.out.1, HE.out.2.2.1, HE.out.1]; exact HK.out.part.2.1
      have hl64 : lf < 18446744073709551616 := by rw [HE.out.2.1]; exact (HK.out.left HS.out).1
      have HAP := Lib.hid (fun W => abs_calls W P hP64)
      have HAL := Lib.hid (fun W => abs_calls W lf hl64)
      obtain ⟨P1, hP1⟩ : ∃ x, x = absD P := ⟨_, rfl⟩
      obtain ⟨L1, hL1⟩ : ∃ x, x = absD lf := ⟨_, rfl⟩
      rw [← hP1] at HAP
      rw [← hL1] at HAL
      obtain ⟨b1, hb1⟩ : ∃ b, (FloatKind.f64.format.order (A n) 4607182418800017408 == some .lt) = b := ⟨_, rfl⟩
      obtain ⟨b2, hb2⟩ : ∃ b, (FloatKind.f64.format.order P1 L1 == some .lt) = b := ⟨_, rfl⟩
      obtain ⟨R, hR⟩ : ∃ R, R = (if (b1 && b2) = true then P else lf) := ⟨_, rfl⟩
      have HRS : Hid (R = s.rest Sz Fz) := Lib.hid (by
        rw [hR, ← hb1, ← hb2, hP1, hL1, hP, HAB.out.1, HE.out.2.1, HE.out.2.2.1, HE.out.1]
        rfl)
      have HRR := Lib.hid hR
      clear hP hP64 hl64 hP1 hL1 hR
      go_upto_region 10 with (simp only [o8])
      go_cut [70] (fun v wc => v = .bool (b1 && b2) ∧ wr = wc)
      case first =>
        cases b1 with
        | true =>
          go_wp2_with (first | (have hh := g1; go_at_call 45; refine (HAL.out _).mono ?_; rintro e w1 ⟨rfl, rfl⟩) | (go_at_call 45; refine (HAP.out _).mono ?_; rintro e w1 ⟨rfl, rfl⟩; have g1 : True := trivial))
          go_meet
          exact ⟨by simp, rfl⟩
        | false =>
          go_wp2_with fail
          go_meet
          exact ⟨rfl, rfl⟩
      case rest =>
        obtain ⟨rfl, rfl⟩ := hcut
        obtain ⟨b, hb⟩ : ∃ b, b = (b1 && b2) := ⟨_, rfl⟩
        rw [← hb] at HRR ⊢
        clear hb hb1 hb2 HAP HAL o8
        go_upto_if 70 with fail
        go_cut [2] (fun v0 wc => v0 = fl R ∧ wr = wc)
        case first =>
          have hR := HRR.out
          cases b with
          | true =>
            rw [if_pos rfl] at hR
            subst hR
            go_wp2_with fail
            go_meet
            exact ⟨rfl, rfl⟩
          | false =>
            rw [if_neg (by decide)] at hR
            subst hR
            go_wp2_with fail
            go_meet
            exact ⟨rfl, rfl⟩
        case rest =>
          obtain ⟨rfl, rfl⟩ := hcut
          clear HRR HF HP HQ HSK
          have HA : Hid (A n = facF s.fac Fz s.n ∧ B n = facQ s.fac s.Bs Fz s.n) := Lib.hid ⟨by rw [HAB.out.1, HE.out.1], by rw [HAB.out.2, HE.out.1]⟩
          obtain ⟨An, hAn⟩ : ∃ x, x = A n := ⟨_, rfl⟩
          obtain ⟨Bn, hBn⟩ : ∃ x, x = B n := ⟨_, rfl⟩
          rw [← hAn, ← hBn] at HA
          try rw [← hAn]
          try rw [← hBn]
          clear hAn hBn hA0 hB0 HAB
          have hR64 : R < 18446744073709551616 := by rw [HRS.out]; exact HK.out.rest64 HS.out
          have HTG : Hid (∀ i, i < n → Fz i = false → TgOk g R An Bn (s.Bs i) (s.fac i) ∧ s.targ Sz Fz i = targD g R An Bn (s.Bs i) (s.fac i)) := Lib.hid (fun i hi hz => by
            have := HK.out.targ HS.out (i := i) (by rw [← HE.out.1]; exact hi) hz
            rw [HRS.out, HE.out.2.2.2, HA.out.1, HA.out.2]
            exact ⟨this, rfl⟩)
          have HW0 := Lib.hid (HO.out.mono (P' := fun k => k = sz ∨ k = ov) (fun k hk => hk.elim))
          have g2 : FlG wr sz n Sz := by rw [HE.out.1]; exact HO.out.flg H2.out.1 id
          have g3 : FlG wr ov n O := by rw [HE.out.1]; exact HO.out.flg H2.out.2.1 id
          have HG := Lib.hid (And.intro g2 g3)
          clear g2 g3
          obtain ⟨w0, hw0⟩ : ∃ x, x = wr := ⟨_, rfl⟩
          go_wp2_with fail
          rw [← hw0]
          rw [← hw0] at HG HW0
          clear hw0 HO
          have HCS : Hid (∀ X, Onl (fun k => k = sz ∨ k = ov ∨ k = fz) w X → X.heap[sp]? = some (.cells #[fl s.room, fl fi, .bool g, .slice (some ⟨bs, 0, none⟩) n cb, .slice (some ⟨fc, 0, none⟩) n cf, .slice (some ⟨lo, 0, none⟩) n cl, .slice (some ⟨hh, 0, none⟩) n ch, .slice az n cs, .slice (some ⟨ov, 0, none⟩) n co, .slice af n cz] 62 (0, 0)) ∧ FlG X bs n s.Bs ∧ FlG X fc n s.fac ∧ FlG X lo n s.lo ∧ FlG X hh n s.hi) := Lib.hid (fun X o => by
            have h := H.out.onl o
            have h1 := h.cell
            rw [← HE.out.1, ← HE.out.2.2.1, ← HE.out.2.2.2] at h1
            rw [HE.out.1]
            rw [HE.out.1] at h1
            exact ⟨h1, h.h4, h.h5, h.h0, h.h1⟩)
          have HNE := Lib.hid H.out.ne
          have HD : Hid (sp ≠ sz ∧ sp ≠ ov ∧ sp ≠ fz ∧ lo ≠ sz ∧ hh ≠ sz ∧ lo ≠ ov ∧ hh ≠ ov) := Lib.hid (by
            have h := H.out.d
            exact ⟨(h sp (by simp)).1, (h sp (by simp)).2.1, (h sp (by simp)).2.2, (h lo (by simp)).1, (h hh (by simp)).1, (h lo (by simp)).2.1, (h hh (by simp)).2.1⟩)
          go_loopg [7, 8] n (fun m v u wr => ∃ i : Nat, u = .int .i64 (i : Int) ∧ vRel1 (sumO (s.over Sz Fz) Fz i) v ∧ Hid (i + m = n ∧ Onl (fun k => k = sz ∨ k = ov) w wr) ∧ FlG wr sz n (fun j => if j < i then s.turnS Sz Fz j else Sz j) ∧ FlG wr ov n (ovF s Sz Fz O i))
          case atStart => exact ⟨0, rfl, rfl, Lib.hid ⟨by omega, HW0.out⟩, HG.out.1.congr (fun j _ => by simp), HG.out.2.congr (fun j _ => by unfold ovF; simp)⟩
          case round =>
            obtain ⟨i, rfl, hv, hw, hs, ho⟩ := hrel
            have hsum := hw.out.1
            have HO := Lib.hid hw.out.2
            have HX := Lib.hid (And.intro hs ho)
            have HVI := Lib.hid hv
            clear hw hs ho hv
            have hn := HN.out
            have q0 : IntKind.i64.wrap ((i : Int) + 1) = (i : Int) + 1 := IntWalk.i64_in _ (by omega)
            have HOP : Hid (Onl (fun k => k = sz ∨ k = ov ∨ k = fz) w wr) := Lib.hid (HO.out.mono (fun k hk => by rcases hk with e | e; exact .inl e; exact .inr (.inl e)))
            obtain ⟨g1, g2, g3, g4, g5⟩ := HCS.out wr HOP.out
            have c7 := cell_blk g1 7 rfl
            by_cases hi : i < n
            · obtain ⟨rfl, rfl⟩ := HPZ.out (by omega)
              have HM : Hid (gk - 1 < gk) := Lib.hid (by omega)
              have HSM : Hid (i + 1 + (gk - 1) = n) := Lib.hid (by omega)
              have his : i < s.n := by rw [← HE.out.1]; exact hi
              have c9 := cell_blk g1 9 rfl
              have x6 := (HO.out.blg H2.out.2.2 (fun hc => by rcases hc with e | e; exact HNE.out.2.1 e.symm; exact HNE.out.2.2 e.symm)).cell his
              cases hz : Fz i with
              | true =>
                rw [hz] at x6
                have hz' := Lib.hid hz
                have hse := sumO_true1 (o := s.over Sz Fz) hz
                clear hz g1 g2 g3 g4 g5
                go_wp2_with fail
                go_roundg (gk - 1)
                case measure => exact HM.out
                case rel => exact ⟨i + 1, by go_num, by rw [hse]; exact HVI.out, Lib.hid ⟨HSM.out, HO.out⟩, HX.out.1.congr (fun j hj => stepS hz'.out j), HX.out.2.congr (fun j hj => ovF_skip hz'.out j)⟩
              | false =>
                rw [hz] at x6
                obtain ⟨tg, htv⟩ := HTG.out i hi hz
                have hov := HK.out.over HS.out his hz
                have hnl := And.intro (HK.out.lo i his) (HK.out.hi i his)
                obtain ⟨T, hT⟩ : ∃ T, T = targD g R An Bn (s.Bs i) (s.fac i) := ⟨_, rfl⟩
                rw [← hT] at htv
                have HTC : Hid (Calls Try.prog 48 #[.pointer (some ⟨sp, 0, none⟩), .int .i64 (i : Int), fl R, fl An, fl Bn] wr fun e w' => e = .returned (fl T) ∧ ∃ m, w' = wr.drewN m) := Lib.hid (by
                  rw [hT]
                  exact target18_calls wr hi rfl rfl hR64 tg g1 g2 g3 hn)
                obtain ⟨v, hvv⟩ : ∃ v, v = btwD (s.lo i) T (s.hi i) := ⟨_, rfl⟩
                obtain ⟨o, hoo⟩ : ∃ o, o = s.over Sz Fz i := ⟨_, rfl⟩
                have HBW : Hid (∀ X, Calls Try.prog 31 #[fl (s.lo i), fl T, fl (s.hi i)] X fun e w' => e = .returned (fl v) ∧ X = w') := Lib.hid (fun X => by
                  rw [hvv]
                  exact btwR_calls X (s.lo i) T (s.hi i) hnl.1.num (by rw [hT]; exact tg.num) hnl.2.num)
                have hop : ∀ tt w, (binOp .sub tt (fl v) (fl T)).run Try.prog w = .ok (fl o) w := hsub (by rw [hvv, hoo, ← htv]; exact hov.1)
                have HVS : Hid (v = btwD (s.lo i) (s.targ Sz Fz i) (s.hi i)) := Lib.hid (by rw [hvv, htv])
                have HOO := Lib.hid hoo
                have HZ := Lib.hid hz
                have hse := sumO_false1 (o := s.over Sz Fz) hz
                rw [← hoo] at hse
                have HSE := Lib.hid hse
                clear hvv hoo htv hov hnl hT tg hz g1 g2 g3 g4 g5 his hse
                go_upto_region 18 with (go_at_call 48; refine HTC.out.mono ?_; rintro e X ⟨rfl, m, hX0⟩; have hX := Lib.hid hX0; clear hX0)
                have oX : Onl (fun k => k = sz ∨ k = ov) w X := by rw [hX.out]; exact HO.out.drewN m
                have sX : FlG X sz n (fun j => if j < i then s.turnS Sz Fz j else Sz j) := by rw [hX.out]; exact HX.out.1
                have vX : FlG X ov n (ovF s Sz Fz O i) := by rw [hX.out]; exact HX.out.2
                clear hX
                have OX := Lib.hid (And.intro oX (And.intro sX vX))
                clear oX sX vX c7 c9 x6
                obtain ⟨g1, g2, g3, g4, g5⟩ := HCS.out X (OX.out.1.mono (fun k hk => by rcases hk with e | e; exact .inl e; exact .inr (.inl e)))
                have hd := HD.out
                have hne := HNE.out
                have d7 : X.drew.cell? ⟨sp, 7, none⟩ = some (.slice (some ⟨sz, 0, none⟩) n cs) := cell_blk g1 7 rfl
                have d5 : X.drew.cell? ⟨sp, 5, none⟩ = some (.slice (some ⟨lo, 0, none⟩) n cl) := cell_blk g1 5 rfl
                have d6 : X.drew.cell? ⟨sp, 6, none⟩ = some (.slice (some ⟨hh, 0, none⟩) n ch) := cell_blk g1 6 rfl
                have d8 : X.cell? ⟨sp, 8, none⟩ = some (.slice (some ⟨ov, 0, none⟩) n co) := cell_blk g1 8 rfl
                have e0 : X.drew.cell? ⟨lo, i, none⟩ = some (fl (s.lo i)) := g4.cell hi
                have e1 : X.drew.cell? ⟨hh, i, none⟩ = some (fl (s.hi i)) := g5.cell hi
                have z0 := OX.out.2.1.cell hi
                rw [if_neg (Nat.lt_irrefl i)] at z0
                have zf := OX.out.2.1.free i hi
                have ne := fun (b k : Nat) (u v : Value) (hb : b ≠ sz) (hc : X.cell? ⟨b, k, none⟩ = some u) => (set_cell_ne (w := X) (a := ⟨sz, i, none⟩) (p := ⟨b, k, none⟩) v hb).trans hc
                have y7 : (X.setCell ⟨sz, i, none⟩ (fl v)).drew.cell? ⟨sp, 7, none⟩ = _ := ne _ _ _ _ hd.1 d7
                have y5 : (X.setCell ⟨sz, i, none⟩ (fl v)).drew.cell? ⟨sp, 5, none⟩ = _ := ne _ _ _ _ hd.1 d5
                have y6 : (X.setCell ⟨sz, i, none⟩ (fl v)).drew.cell? ⟨sp, 6, none⟩ = _ := ne _ _ _ _ hd.1 d6
                have y0 : (X.setCell ⟨sz, i, none⟩ (fl v)).drew.cell? ⟨lo, i, none⟩ = _ := ne _ _ _ _ hd.2.2.2.1 e0
                have y1 : (X.setCell ⟨sz, i, none⟩ (fl v)).drew.cell? ⟨hh, i, none⟩ = _ := ne _ _ _ _ hd.2.2.2.2.1 e1
                have y8 : (X.setCell ⟨sz, i, none⟩ (fl v)).drew.cell? ⟨sp, 8, none⟩ = _ := ne _ _ _ _ hd.1 d8
                clear g1 g2 g3 g4 g5 ne d8
                go_region_held3 (fun W => W.cell? ⟨sp, 7, none⟩ = some (.slice (some ⟨sz, 0, none⟩) n cs) ∧ W.cell? ⟨sp, 5, none⟩ = some (.slice (some ⟨lo, 0, none⟩) n cl) ∧ W.cell? ⟨sp, 6, none⟩ = some (.slice (some ⟨hh, 0, none⟩) n ch) ∧ W.cell? ⟨lo, i, none⟩ = some (fl (s.lo i)) ∧ W.cell? ⟨hh, i, none⟩ = some (fl (s.hi i))) (first | exact ⟨d7, d5, d6, e0, e1⟩ | exact ⟨y7, y5, y6, y0, y1⟩) (first | (go_at_call 31; refine (HBW.out _).mono ?_; rintro e w1 ⟨rfl, rfl⟩))
                obtain ⟨Y, hY⟩ : ∃ Y, Y = (X.setCell ⟨sz, i, none⟩ (fl v)).drew := ⟨_, rfl⟩
                have sY : FlG Y sz n (fun j => if j = i then v else (if j < i then s.turnS Sz Fz j else Sz j)) := by rw [hY]; exact OX.out.2.1.set i v
                have vY : FlG Y ov n (ovF s Sz Fz O i) := by rw [hY]; exact OX.out.2.2.keep (fun o ho => (heap_setCell_other X ⟨sz, i, none⟩ ov (fl v) (Ne.symm hne.1)).trans ho)
                have oY : Onl (fun k => k = sz ∨ k = ov) w Y := by rw [hY]; exact (OX.out.1.set (.inl rfl) _).drew
                have b7 : Y.drew.cell? ⟨sp, 7, none⟩ = some (.slice (some ⟨sz, 0, none⟩) n cs) := by rw [hY]; exact y7
                have b8 : Y.drew.cell? ⟨sp, 8, none⟩ = some (.slice (some ⟨ov, 0, none⟩) n co) := by rw [hY]; exact y8
                have k0 : Y.drew.cell? ⟨sz, i, none⟩ = some (fl v) := by have := sY.cell hi; rwa [if_pos rfl] at this
                have w0 := vY.cell hi
                have wf := vY.free i hi
                have ne2 := fun (b k : Nat) (u v : Value) (hb : b ≠ ov) (hc : Y.cell? ⟨b, k, none⟩ = some u) => (set_cell_ne (w := Y) (a := ⟨ov, i, none⟩) (p := ⟨b, k, none⟩) v hb).trans hc
                have m7 : (Y.setCell ⟨ov, i, none⟩ (fl o)).drew.cell? ⟨sp, 7, none⟩ = _ := ne2 _ _ _ _ hd.2.1 b7
                have m8 : (Y.setCell ⟨ov, i, none⟩ (fl o)).drew.cell? ⟨sp, 8, none⟩ = _ := ne2 _ _ _ _ hd.2.1 b8
                have m0 : (Y.setCell ⟨ov, i, none⟩ (fl o)).drew.cell? ⟨sz, i, none⟩ = _ := ne2 _ _ _ _ hne.1 k0
                have mo : (Y.setCell ⟨ov, i, none⟩ (fl o)).drew.cell? ⟨ov, i, none⟩ = some (fl o) := by have := (vY.set i o).cell hi; rwa [if_pos rfl] at this
                have OY := Lib.hid (And.intro oY (And.intro sY vY))
                clear d7 d5 d6 e0 e1 z0 zf y7 y5 y6 y0 y1 y8 sY vY oY ne2 hd
                go_upto_region 19 with fail
                rw [show (X.setCell ⟨sz, i, none⟩ (Value.float FloatKind.f64 v)).drew = Y from hY.symm]
                clear hY
                go_region_held3 (fun W => W.cell? ⟨sp, 7, none⟩ = some (.slice (some ⟨sz, 0, none⟩) n cs) ∧ W.cell? ⟨sp, 8, none⟩ = some (.slice (some ⟨ov, 0, none⟩) n co) ∧ W.cell? ⟨sz, i, none⟩ = some (fl v)) (first | exact ⟨b7, b8, k0⟩ | exact ⟨m7, m8, m0⟩) (simp only [hop])
                have HNES := Lib.hid hne
                clear b7 b8 k0 w0 wf hop hne
                go_upto_region 20 with fail
                obtain ⟨Z, hZ⟩ : ∃ Z, Z = (Y.setCell ⟨ov, i, none⟩ (fl o)).drew := ⟨_, rfl⟩
                rw [show (Y.setCell ⟨ov, i, none⟩ (Value.float FloatKind.f64 o)).drew = Z from hZ.symm]
                rw [← hZ] at m7 m8 m0 mo
                have hex : ∃ x r y, u7 = fl x ∧ (∀ tt, (binOp .add tt (fl x) (fl o)).run Try.prog Z = .ok (fl r) y) ∧ (y = Z ∨ y = Z.drew) ∧ vRel1 (sumO (s.over Sz Fz) Fz (i + 1)) (fl r) := by
                  rw [HSE.out]
                  have hv := HVI.out
                  cases hs : sumO (s.over Sz Fz) Fz i with
                  | none =>
                    rw [hs] at hv
                    obtain ⟨x, e1, e2⟩ := hv
                    obtain ⟨r, h1, h2⟩ := run_add_none1 (add_none_left1 (y := o) e2) Z
                    exact ⟨x, r, _, e1, h2, .inr rfl, r, rfl, h1⟩
                  | some a =>
                    rw [hs] at hv
                    cases hr : Ieee.double.add a o with
                    | none =>
                      obtain ⟨r, h1, h2⟩ := run_add_none1 hr Z
                      refine ⟨a, r, _, hv, h2, .inr rfl, ?_⟩
                      show vRel1 (Ieee.double.add a o) _
                      rw [hr]
                      exact ⟨r, rfl, h1⟩
                    | some r =>
                      refine ⟨a, r, Z, hv, fun tt => hadd hr tt Z, .inl rfl, ?_⟩
                      show vRel1 (Ieee.double.add a o) _
                      rw [hr]
                      rfl
                obtain ⟨x, r, y, rfl, hop, hy, hvr⟩ := hex
                have HZ2 : Hid (Onl (fun k => k = sz ∨ k = ov) w y ∧ FlG y sz n (fun j => if j < i + 1 then s.turnS Sz Fz j else Sz j) ∧ FlG y ov n (ovF s Sz Fz O (i + 1))) := Lib.hid (by
                  have z1 : Onl (fun k => k = sz ∨ k = ov) w Z := by rw [hZ]; exact (OY.out.1.set (.inr rfl) _).drew
                  have z2 : FlG Z sz n (fun j => if j < i + 1 then s.turnS Sz Fz j else Sz j) := by
                    rw [hZ]
                    refine FlG.congr (OY.out.2.1.keep (fun o' ho => (heap_setCell_other Y ⟨ov, i, none⟩ sz (fl o) HNES.out.1).trans ho)) (fun j hj => ?_)
                    rw [HVS.out]
                    exact nextS HZ.out j
                  have z3 : FlG Z ov n (ovF s Sz Fz O (i + 1)) := by
                    rw [hZ]
                    refine (OY.out.2.2.set i o).congr (fun j hj => ?_)
                    rw [HOO.out]
                    exact ovF_set HZ.out j
                  rcases hy with rfl | rfl
                  · exact ⟨z1, z2, z3⟩
                  · exact ⟨z1.drew, z2, z3⟩)
                have HVR := Lib.hid hvr
                clear hy hvr hZ
                go_wp2_with (simp only [hop])
                go_roundg (gk - 1)
                case measure => exact HM.out
                case rel => exact ⟨i + 1, by go_num, HVR.out, Lib.hid ⟨HSM.out, HZ2.out.1⟩, HZ2.out.2.1, HZ2.out.2.2⟩
            · have hin : i = n := by omega
              obtain ⟨V, hV⟩ : ∃ V, V = s.turnV Sz Fz := ⟨_, rfl⟩
              have hv2 := HVI.out
              rw [hin, show sumO (s.over Sz Fz) Fz n = V by rw [hV, HE.out.1]; rfl] at hv2
              obtain ⟨xv, rfl, hp, hq⟩ := hv2.pick1
              obtain ⟨pv, hpv⟩ : ∃ b, b = posO V := ⟨_, rfl⟩
              obtain ⟨qv, hqv⟩ : ∃ b, b = negO V := ⟨_, rfl⟩
              rw [← hpv] at hp
              rw [← hqv] at hq
              have HPQ := Lib.hid (And.intro hpv (And.intro hqv hV))
              have HHP := Lib.hid (And.intro hp hq)
              have hs := HX.out.1
              have ho := HX.out.2
              rw [hin] at hs ho
              have hs' : FlG wr sz n (s.turnS Sz Fz) := hs.congr (fun j hj => by rw [if_pos hj])
              have H7 := Lib.hid (And.intro HOP.out (And.intro hs' (And.intro ho (HO.out.blg H2.out.2.2 (fun hc => by rcases hc with e | e; exact HNE.out.2.1 e.symm; exact HNE.out.2.2 e.symm)))))
              have HN0 := HN.out
              rw [hin]
              clear hi hsum hin hv2 hpv hqv hV hp hq hs ho hs' g2 g3 g4 g5 q0
              go_wp2_with fail
              obtain ⟨w7, hw7⟩ : ∃ x, x = wr := ⟨_, rfl⟩
              rw [← hw7] at H7 g1 ⊢
              clear hw7 c7 HX HO HOP
              have HG1 := Lib.hid g1
              clear g1
              go_loopg [10] n (fun m u wr => ∃ i : Nat, u = .int .i64 (i : Int) ∧ Hid (i + m = n ∧ Onl (fun x => x = fz) w7 wr) ∧ BlG wr fz n (mixF1 (s.turnF Sz Fz) Fz i))
              case atStart => exact ⟨0, rfl, Lib.hid ⟨by omega, Onl.refl _ _⟩, by have := H7.out.2.2.2; rw [← HE.out.1] at this; exact this⟩
              case round =>
                obtain ⟨i, rfl, hw, hx⟩ := hrel
                have hsum := hw.out.1
                have HO4 := Lib.hid hw.out.2
                have HX4 := Lib.hid hx
                clear hw hx
                have hn := HN.out
                have q0 : IntKind.i64.wrap ((i : Int) + 1) = (i : Int) + 1 := IntWalk.i64_in _ (by omega)
                have g1 := HO4.out.block _ _ HD.out.2.2.1 HG1.out
                have c7 := cell_blk g1 7 rfl
                have c8 := cell_blk g1 8 rfl
                have c9 := cell_blk g1 9 rfl
                clear g1
                by_cases hi : i < n
                · obtain ⟨rfl, rfl⟩ := HPZ.out (by omega)
                  have HM : Hid (gk - 1 < gk) := Lib.hid (by omega)
                  have HSM : Hid (i + 1 + (gk - 1) = n) := Lib.hid (by omega)
                  have x4 := (HO4.out.flg H7.out.2.2.1 HNE.out.2.2).cell hi
                  have x1 := HX4.out.cell hi
                  have xf := HX4.out.free i hi
                  obtain ⟨av, hav⟩ : ∃ x, x = ovF s Sz Fz O n i := ⟨_, rfl⟩
                  rw [← hav] at x4
                  obtain ⟨gtb, hgt⟩ : ∃ b, (FloatKind.f64.format.order av 0 == some .gt) = b := ⟨_, rfl⟩
                  obtain ⟨ltb, hlt⟩ : ∃ b, (FloatKind.f64.format.order av 0 == some .lt) = b := ⟨_, rfl⟩
                  have HFRZ : Hid (Fz i = false → s.turnF Sz Fz i = (!(pv && !gtb) && !(qv && !ltb))) := Lib.hid (fun hz => by
                    have e : av = s.over Sz Fz i := by rw [hav]; unfold ovF; rw [if_pos hi, hz, if_neg (by decide)]
                    unfold Shr.turnF
                    rw [hz, ← HPQ.out.2.2, Bool.false_or, HPQ.out.1, HPQ.out.2.1, ← hgt, ← hlt, e]
                    rfl)
                  obtain ⟨hp, hq⟩ := HHP.out
                  clear hav HPQ HHP HTG
                  cases pv with
                  | false =>
                    cases qv with
                    | false =>
                      have hsm : s.turnF Sz Fz i = true := by
                        cases hz : Fz i with
                        | true => exact turnF_mono' hz
                        | false => rw [HFRZ.out hz]; rfl
                      have HSMF := Lib.hid hsm
                      clear hsm
                      go_wp2_with fail
                      go_roundg (gk - 1)
                      case measure => exact HM.out
                      case rel => exact ⟨i + 1, by go_num, Lib.hid ⟨HSM.out, HO4.out.set rfl _⟩, (HX4.out.set i true).congr (fun j _ => mixF1_set HSMF.out j)⟩
                    | true =>
                      cases ltb with
                      | true =>
                        have hsm : s.turnF Sz Fz i = true := by
                          cases hz : Fz i with
                          | true => exact turnF_mono' hz
                          | false => rw [HFRZ.out hz]; rfl
                        have HSMF := Lib.hid hsm
                        clear hsm
                        go_wp2_with fail
                        go_roundg (gk - 1)
                        case measure => exact HM.out
                        case rel => exact ⟨i + 1, by go_num, Lib.hid ⟨HSM.out, HO4.out.set rfl _⟩, (HX4.out.set i true).congr (fun j _ => mixF1_set HSMF.out j)⟩
                      | false =>
                        have hsm : s.turnF Sz Fz i = Fz i := by
                          cases hz : Fz i with
                          | true => exact turnF_mono' hz
                          | false => rw [HFRZ.out hz]; rfl
                        have HSMF := Lib.hid hsm
                        clear hsm
                        go_wp2_with fail
                        go_roundg (gk - 1)
                        case measure => exact HM.out
                        case rel => exact ⟨i + 1, by go_num, Lib.hid ⟨HSM.out, HO4.out⟩, HX4.out.congr (fun j _ => mixF1_same HSMF.out j)⟩
                  | true =>
                    cases gtb with
                    | false =>
                      have hsm : s.turnF Sz Fz i = Fz i := by
                        cases hz : Fz i with
                        | true => exact turnF_mono' hz
                        | false => rw [HFRZ.out hz]; rfl
                      have HSMF := Lib.hid hsm
                      clear hsm
                      go_wp2_with fail
                      go_roundg (gk - 1)
                      case measure => exact HM.out
                      case rel => exact ⟨i + 1, by go_num, Lib.hid ⟨HSM.out, HO4.out⟩, HX4.out.congr (fun j _ => mixF1_same HSMF.out j)⟩
                    | true =>
                      cases qv with
                      | false =>
                        have hsm : s.turnF Sz Fz i = true := by
                          cases hz : Fz i with
                          | true => exact turnF_mono' hz
                          | false => rw [HFRZ.out hz]; rfl
                        have HSMF := Lib.hid hsm
                        clear hsm
                        go_wp2_with fail
                        go_roundg (gk - 1)
                        case measure => exact HM.out
                        case rel => exact ⟨i + 1, by go_num, Lib.hid ⟨HSM.out, HO4.out.set rfl _⟩, (HX4.out.set i true).congr (fun j _ => mixF1_set HSMF.out j)⟩
                      | true =>
                        cases ltb with
                        | true =>
                          have hsm : s.turnF Sz Fz i = true := by
                            cases hz : Fz i with
                            | true => exact turnF_mono' hz
                            | false => rw [HFRZ.out hz]; rfl
                          have HSMF := Lib.hid hsm
                          clear hsm
                          go_wp2_with fail
                          go_roundg (gk - 1)
                          case measure => exact HM.out
                          case rel => exact ⟨i + 1, by go_num, Lib.hid ⟨HSM.out, HO4.out.set rfl _⟩, (HX4.out.set i true).congr (fun j _ => mixF1_set HSMF.out j)⟩
                        | false =>
                          have hsm : s.turnF Sz Fz i = Fz i := by
                            cases hz : Fz i with
                            | true => exact turnF_mono' hz
                            | false => rw [HFRZ.out hz]; rfl
                          have HSMF := Lib.hid hsm
                          clear hsm
                          go_wp2_with fail
                          go_roundg (gk - 1)
                          case measure => exact HM.out
                          case rel => exact ⟨i + 1, by go_num, Lib.hid ⟨HSM.out, HO4.out⟩, HX4.out.congr (fun j _ => mixF1_same HSMF.out j)⟩
                · have hin : i = n := by omega
                  have hb8 : BlG wr fz n (s.turnF Sz Fz) := by
                    have := HX4.out
                    rw [hin] at this
                    exact this.congr (fun j hj => by unfold mixF1; rw [if_pos hj])
                  have HB8 := Lib.hid hb8
                  clear hb8 hin
                  go_wp2_with fail
                  go_end0
                  exact ⟨rfl, HO4.out.flg H7.out.2.1 HNE.out.2.1, ⟨_, HO4.out.flg H7.out.2.2.1 HNE.out.2.2⟩, HB8.out, H7.out.1.trans (HO4.out.mono (fun k hk => .inr (.inr hk)))⟩
end Go.Proofs.Ytohmmkkbfiembaa
