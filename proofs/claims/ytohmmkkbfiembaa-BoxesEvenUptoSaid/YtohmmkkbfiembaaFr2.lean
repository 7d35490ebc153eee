/- The document's share: what is left; a target. -/
import Derived.Test.YtohmmkkbfiembaaFr1
import Derived.Test.YtohmmkkbfiembaaFw4
namespace Go.Proofs.Ytohmmkkbfiembaa
open Go.RowKit Go.Shelf
attribute [local go_sem] Oper.semAt_some
attribute [local go_sem] run_store_float
set_option linter.unusedVariables false
set_option maxRecDepth 100000

set_option maxHeartbeats 2000000 in
theorem left18_calls (w : World) {sp bs sz fz n room cb cs cf : Nat} {x1 x2 x4 x5 x6 x8 : Value} {az af : Option Addr} {Sz Bs : Nat → Nat} {Fz : Nat → Bool} (hn : n ≤ 1048578) (hroom : Bd 1074 (2 ^ 25) room) (hSz : ∀ i, i < n → Bd 1074 (2 ^ 25) (Sz i)) (hBs : ∀ i, i < n → Bd 1074 (2 ^ 25) (Bs i))
    (hsp : w.heap[sp]? = some (.cells #[fl room, x1, x2, .slice (some ⟨bs, 0, none⟩) n cb, x4, x5, x6, .slice az n cs, x8, .slice af n cf] 62 (0, 0)))
    (pz : 0 < n → az = some ⟨sz, 0, none⟩ ∧ af = some ⟨fz, 0, none⟩) (h2 : BlG w fz n Fz) (h3 : FlG w sz n Sz) (h4 : FlG w bs n Bs) :
    Calls Try.prog 32 #[.pointer (some ⟨sp, 0, none⟩)] w fun e w' => e = .returned (fl (leftF room Sz Bs Fz n)) ∧ w = w' := by
  have HST := Lib.hid (fun i (hi : i < n) => leftF_step (Fz := Fz) hn hroom hSz hBs hi)
  have H2 := Lib.hid h2
  have H3 := Lib.hid h3
  have H4 := Lib.hid h4
  have HN := Lib.hid hn
  have HPZ := Lib.hid pz
  have c0 := cell_blk hsp 0 rfl
  have c3 := cell_blk hsp 3 rfl
  have c7 := cell_blk hsp 7 rfl
  have c9 := cell_blk hsp 9 rfl
  obtain ⟨G, hG⟩ : ∃ G, G = leftF room Sz Bs Fz := ⟨_, rfl⟩
  have hG0 : G 0 = room := by rw [hG]; rfl
  rw [← hG] at HST ⊢
  clear pz h2 h3 h4 hroom hSz hBs hG hn hsp
  go_enter Try.func32, Try.ntmps32
  go_wp2
  go_loopg [3, 4] n (fun m v u wr => ∃ i : Nat, u = .int .i64 (i : Int) ∧ v = fl (G i) ∧ Hid (i + m = n) ∧ w = wr)
  case atStart => exact ⟨0, rfl, by rw [hG0], Lib.hid (by omega), rfl⟩
  case round =>
    obtain ⟨i, rfl, rfl, hw, rfl⟩ := hrel
    have hsum := hw.out
    have hn := HN.out
    have q0 : IntKind.i64.wrap ((i : Int) + 1) = (i : Int) + 1 := IntWalk.i64_in _ (by omega)
    clear hw
    by_cases hi : i < n
    · obtain ⟨rfl, rfl⟩ := HPZ.out (by omega)
      have x2 := H2.out.cell hi
      have x3 := H3.out.cell hi
      have x4 := H4.out.cell hi
      have hst := HST.out i hi
      have HM : Hid (gk - 1 < gk) := Lib.hid (by omega)
      have HS : Hid (i + 1 + (gk - 1) = n) := Lib.hid (by omega)
      cases hz : Fz i with
      | true =>
        rw [hz, if_pos rfl] at hst
        rw [hz] at x2
        have hop := hsub hst
        clear hst
        go_wp2_with (simp only [hop])
        go_roundg (gk - 1)
        case measure => exact HM.out
        case rel => exact ⟨i + 1, by go_num, rfl, HS, rfl⟩
      | false =>
        rw [hz, if_neg (by decide)] at hst
        rw [hz] at x2
        have hop := hsub hst
        clear hst
        go_wp2_with (simp only [hop])
        go_roundg (gk - 1)
        case measure => exact HM.out
        case rel => exact ⟨i + 1, by go_num, rfl, HS, rfl⟩
    · obtain rfl : i = n := by omega
      go_wp2
      go_ret
      exact ⟨rfl, rfl⟩
set_option maxHeartbeats 2000000 in
theorem target18_calls (w : World) {sp bs fc n i R f q bi fa cb cf : Nat} {g : Bool} {x0 x1 x5 x6 x7 x8 x9 : Value} {Bs fac : Nat → Nat} (hi : i < n) (hbi : Bs i = bi) (hfa : fac i = fa) (hR : R < 18446744073709551616) (tg : TgOk g R f q bi fa)
    (hsp : w.heap[sp]? = some (.cells #[x0, x1, .bool g, .slice (some ⟨bs, 0, none⟩) n cb, .slice (some ⟨fc, 0, none⟩) n cf, x5, x6, x7, x8, x9] 62 (0, 0)))
    (h4 : FlG w bs n Bs) (h5 : FlG w fc n fac) (hn : n ≤ 1048578) :
    Calls Try.prog 48 #[.pointer (some ⟨sp, 0, none⟩), .int .i64 (i : Int), fl R, fl f, fl q] w fun e w' => e = .returned (fl (targD g R f q bi fa)) ∧ ∃ m, w' = w.drewN m := by
  have c2 := cell_blk hsp 2 rfl
  have c3 := cell_blk hsp 3 rfl
  have c4 := cell_blk hsp 4 rfl
  have x4 := h4.cell hi
  have x5 := h5.cell hi
  rw [hbi] at x4
  rw [hfa] at x5
  have lsp := lt_of_some hsp
  have HTG := Lib.hid tg
  have HAB : ∀ W, Calls Try.prog 45 #[fl R] W fun e w' => e = .returned (fl (absD R)) ∧ w' = W := fun W => (abs_calls W R hR).mono (fun e w' h => ⟨h.1, h.2.symm⟩)
  have HABQ := Lib.hid HAB
  obtain ⟨T, hT⟩ : ∃ T, T = targD g R f q bi fa := ⟨_, rfl⟩
  rw [← hT]
  have HTT := Lib.hid hT
  obtain ⟨e0, he0⟩ : ∃ b, (FloatKind.f64.format.order R 0 == some .eq) = b := ⟨_, rfl⟩
  have he0' : eqD R 0 = e0 := he0
  obtain ⟨e1, he1⟩ : ∃ b, (FloatKind.f64.format.order q 0 == some .eq) = b := ⟨_, rfl⟩
  have he1' : eqD q 0 = e1 := he1
  have ht := hT
  clear hbi hfa hR tg hsp h4 h5 HAB hT
  go_enter Try.func48, Try.ntmps48
  unfold targD at ht
  rw [he0', he1'] at ht
  cases e0 with
  | true =>
    rw [if_pos rfl] at ht
    subst ht
    clear he0' he1'
    go_wp2_with fail
    go_ret
    exact ⟨rfl, 0, rfl⟩
  | false =>
    rw [if_neg (by decide)] at ht
    cases g with
    | true =>
      rw [if_pos rfl] at ht
      have o1 := hquo (HTG.out.g1 rfl he0')
      have o2 := hmul (HTG.out.g2 rfl he0')
      have o3 := hadd (HTG.out.g3 rfl he0')
      rw [← ht] at o3
      clear ht he0' he1' HTT HTG
      go_wp2_with fail
      go_quiet (first | simp only [o1] | simp only [o2] | simp only [o3])
      go_wp2_with fail
      go_ret
      exact ⟨rfl, _, rfl⟩
    | false =>
      rw [if_neg (by decide)] at ht
      cases e1 with
      | true =>
        rw [if_pos rfl] at ht
        subst ht
        clear he0' he1'
        go_wp2_with fail
        go_ret
        exact ⟨rfl, 0, rfl⟩
      | false =>
        rw [if_neg (by decide)] at ht
        have o0 := hmul (HTG.out.s1)
        have o1 := hquo (HTG.out.s2 he0' he1')
        have o2 := hmul (HTG.out.s3 he0' he1')
        have o3 := hsub (HTG.out.s4 he0' he1')
        rw [← ht] at o3
        clear ht he0' he1' HTT HTG
        go_wp2_with fail
        go_quiet (first | (go_at_call 45; exact Calls.quiet_of_same (HABQ.out _)) | simp only [o0] | simp only [o1] | simp only [o2] | simp only [o3])
        go_wp2_with fail
        go_ret
        exact ⟨rfl, _, rfl⟩
end Go.Proofs.Ytohmmkkbfiembaa
