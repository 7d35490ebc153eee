/- DataChecks walked: Named, Check and Equal answer as the reference does. -/
import Derived.Deep.DeepCutAuto
import Derived.Test.YtelhnaphkbpakaaMc37
namespace Go.Proofs.Ytelhnaphkbpakaa
open Go.RowKit
set_option linter.unusedVariables false
set_option maxRecDepth 100000

theorem LentU.frt30 {B C : Nat} {w w' : World} {a : Option Addr} {cap : Nat} {us : List Nat} (h : LentU B w a cap us) (f : FrT [30] C w w') : LentU B w' a cap us := ⟨f.row h.row (by decide), h.bnd, h.len⟩
theorem LentNd.frt {B C : Nat} {w w' : World} {N : Nd} (h : LentNd B w N) (f : FrT [30] C w w') : LentNd B w' N :=
  ⟨h.data.frt30 f, f.row h.attrs (by decide), fun x hx => (h.val x hx).frt30 f, h.nams, h.nam, h.bd⟩
theorem ln_fill {U U3 U4 : World} {g1 g2 : Nat} {A B : Nd} {lo : Nat} {M : Nd} (h : LentNd lo U M) (hne : g1 ≠ g2) (e1 : U.heap[g1]? = some (.cells Nd.zero.cells 30 (0, 0))) (e2 : U.heap[g2]? = some (.cells Nd.zero.cells 30 (0, 0)))
    (h3 : ((((((U.setCell ⟨g1, 0, none⟩ (.int .i64 A.kind)).setCell ⟨g1, 1, none⟩ (.string A.name)).setCell ⟨g1, 2, none⟩ (.slice A.da A.data.length A.dc)).setCell ⟨g1, 3, none⟩ (.slice A.aa A.L.length A.ac)).setCell ⟨g1, 4, none⟩ (.int .u32 A.slot)).setCell ⟨g1, 5, none⟩ (.int .u32 A.gen)) = U3)
    (h4 : ((((((U3.setCell ⟨g2, 0, none⟩ (.int .i64 B.kind)).setCell ⟨g2, 1, none⟩ (.string B.name)).setCell ⟨g2, 2, none⟩ (.slice B.da B.data.length B.dc)).setCell ⟨g2, 3, none⟩ (.slice B.aa B.L.length B.ac)).setCell ⟨g2, 4, none⟩ (.int .u32 B.slot)).setCell ⟨g2, 5, none⟩ (.int .u32 B.gen)) = U4) : LentNd lo U4 M := by
  subst h3 h4
  have d2 := six_other e2 (Ne.symm hne) (.int .i64 A.kind) (.string A.name) (.slice A.da A.data.length A.dc) (.slice A.aa A.L.length A.ac) (.int .u32 A.slot) (.int .u32 A.gen)
  exact (h.frt (six_cells e1 _ _ _ _ _ _).2).frt (six_cells d2 _ _ _ _ _ _).2
theorem two_zero' (we : World) : Below we.heap.size we ((we.alloc (.cells Nd.zero.cells 30)).alloc (.cells Nd.zero.cells 30)) ∧ ((we.alloc (.cells Nd.zero.cells 30)).alloc (.cells Nd.zero.cells 30)).heap[we.heap.size]? = some (.cells Nd.zero.cells 30 (0, 0)) ∧ ((we.alloc (.cells Nd.zero.cells 30)).alloc (.cells Nd.zero.cells 30)).heap[we.heap.size + 1]? = some (.cells Nd.zero.cells 30 (0, 0)) :=
  ⟨((Below.refl _ we).alloc (Nat.le_refl _) _).alloc (by simp) _, alloc_blk (Go.heap_alloc_new we _) _, by
    have := Go.heap_alloc_new (we.alloc (.cells Nd.zero.cells 30)) (.cells Nd.zero.cells 30); rwa [World.size_alloc] at this⟩
/-- A node lent, in its box. -/
structure LnBx (lo b : Nat) (N P : Nd) (W : World) : Prop where
  x : W.heap[b]? = some (.cells P.cells 30 (0, 0))
  ln : LentNd lo W P
  same : P.Same N
theorem LnBx.below {lo b : Nat} {N P : Nd} {W W' : World} (h : LnBx lo b N P W) (b' : Below W.heap.size W W') : LnBx lo b N P W' := ⟨(b'.block _ (lt_of_some h.x)).trans h.x, h.ln.below b', h.same⟩

set_option maxHeartbeats 32000000 in
theorem dataChecks_calls (w : World) (A : Nd) (hA : NdIn w A) (hAB : A.Bd 1048576) (B : Nd) (hB : NdIn w B) (hBB : B.Bd 1048576) {sa : Option Addr} {S : List ByteArray} (sc : Nat) (hsl : S.length ≤ 1048576)
    (hS : ∀ (i : Nat) s, S[i]? = some s → s.size ≤ 9223372036854775807 ∧ ∃ b off, sa = some ⟨b, off, none⟩ ∧ b < w.heap.size ∧ w.cell? ⟨b, off + i, none⟩ = some (.string s)) :
    Calls Try.prog 5 #[A.v, B.v, .slice sa S.length sc] w fun e w' => e = .returned (.bool true) ∧ Below w.heap.size w w' := by
  obtain ⟨V, hV⟩ : ∃ V, V = (w.alloc (.cells A.cells 30)).alloc (.cells B.cells 30) := ⟨_, rfl⟩
  have hbV : Below w.heap.size w V := by rw [hV]; exact ((Below.refl _ w).alloc (Nat.le_refl _) _).alloc (by simp) _
  have x0 : V.heap[w.heap.size]? = some (.cells A.cells 30 (0, 0)) := by rw [hV]; exact alloc_blk (Go.heap_alloc_new w _) _
  have x1 : V.heap[w.heap.size + 1]? = some (.cells B.cells 30 (0, 0)) := by
    rw [hV]; have := Go.heap_alloc_new (w.alloc (.cells A.cells 30)) (.cells B.cells 30); rwa [World.size_alloc] at this
  obtain ⟨m, em⟩ : ∃ m, m = S.length := ⟨_, rfl⟩
  have hV2 := hV
  have HAW := Lib.hid (awake_true V)
  have KST : Hid (∀ W, Below V.heap.size V W → NdBx w.heap.size A W ∧ NdBx (w.heap.size + 1) B W ∧ Below w.heap.size w W) := Lib.hid (fun W b => by
    have hl := hbV.trans (b.mono hbV.size)
    exact ⟨⟨(b.block _ (lt_of_some x0)).trans x0, hA.below hl⟩, ⟨(b.block _ (lt_of_some x1)).trans x1, hB.below hl⟩, hl⟩)
  have HSS := Lib.hid hS
  have HM := Lib.hid em
  rw [← em] at hsl ⊢
  have HLN : Hid (A.L.length ≤ 1099511627776 ∧ B.L.length ≤ 1099511627776) := Lib.hid ⟨Nat.le_trans hAB.attrs (by decide), Nat.le_trans hBB.attrs (by decide)⟩
  have HBD := Lib.hid (And.intro hAB hBB)
  obtain ⟨ka, eka⟩ : ∃ k, k = checkC A.c := ⟨_, rfl⟩
  obtain ⟨kb, ekb⟩ : ∃ k, k = checkC B.c := ⟨_, rfl⟩
  have HK := Lib.hid (And.intro eka ekb)
  have HN1 : Hid (∀ (W : World) (s : ByteArray), s.size ≤ 9223372036854775807 → Calls Try.prog 12 #[.string s] W fun e w' => e = .returned (.bool (namedD s)) ∧ Below W.heap.size W w') := Lib.hid (fun W s h => named_calls W s h)
  have HN2 : Hid (∀ (W : World) (s : ByteArray), s.size ≤ 9223372036854775807 → Calls Try.prog 13 #[.string s] W fun e w' => e = .returned (.bool (namedD s)) ∧ W = w') := Lib.hid (fun W s h => namedR_calls W s h)
  have HND : Hid (∀ (W : World) (M : Nd), NdIn W M → M.Bd 1048576 → Calls Try.prog 14 #[M.v] W fun e w' => ∃ P : Nd, e = .returned P.v ∧ P.Same M ∧ LentNd W.heap.size w' P ∧ Below W.heap.size W w') := Lib.hid (fun W M h b => node_calls W M h b)
  have HCK : Hid (∀ (W : World) (M : Nd) (k : Int), NdIn W M → k = checkC M.c → Calls Try.prog 15 #[M.v] W fun e w' => e = .returned (.int .i64 k) ∧ Below W.heap.size W w') := Lib.hid (fun W M k h e => check_u W M h e.symm)
  have HCR : Hid (∀ (W : World) (M : Nd) (k : Int), NdIn W M → k = checkC M.c → Calls Try.prog 16 #[M.v] W fun e w' => e = .returned (.int .i64 k) ∧ Below W.heap.size W w') := Lib.hid (fun W M k h e => by rw [e]; exact checkR_calls W M h)
  have HEQ : Hid (∀ (W : World) (M P : Nd), NdIn W M → NdIn W P → M.L.length ≤ 1099511627776 → P.L.length ≤ 1099511627776 → Calls Try.prog 17 #[M.v, P.v] W (BPost (EqD M.c P.c) W)) := Lib.hid (fun W M P h1 h2 h3 h4 => equal_calls W M P h1 h2 h3 h4)
  have HEQT : Hid (∀ (W : World) (M : Nd), NdIn W M → M.L.length ≤ 1099511627776 → Calls Try.prog 17 #[M.v, M.v] W fun e w' => e = .returned (.bool true) ∧ Below W.heap.size W w') := Lib.hid (fun W M h1 h3 => (equal_calls W M M h1 h1 h3 h3).mono fun e w' hp => hp.told ⟨fun _ => EqD.refl _, fun _ => rfl⟩)
  have HER : Hid (∀ (W : World) (M P : Nd) (r : Bool), NdIn W M → NdIn W P → M.L.length ≤ 1099511627776 → (r = true ↔ EqD M.c P.c) → Calls Try.prog 18 #[M.v, P.v] W fun e w' => e = .returned (.bool r) ∧ Below W.heap.size W w') := Lib.hid (fun W M P r h1 h2 h3 hr => (equalR_calls W M P h1 h2 h3).mono fun e w' hp => hp.told hr)
  have HCL : Hid (∀ (W : World) (M : Nd), NdIn W M → M.Bd 1048576 → Calls Try.prog 20 #[M.v] W fun e w' => ∃ P : Nd, e = .returned P.v ∧ P.Same M ∧ Fresh W.heap.size w' P ∧ Below W.heap.size W w') := Lib.hid (fun W M h b => clone_calls W M h (b.mono (by decide)))
  have HBO : Hid (∀ (W0 W1 W2 : World) (P Q : Nd), Fresh W0.heap.size W1 P → Fresh W1.heap.size W2 Q → W0.heap.size ≤ W1.heap.size → Below W1.heap.size W1 W2 → P.c = A.c → Q.c = A.c → (∀ w', Below W0.heap.size W2 w' → NdIn w' A) → Calls Try.prog 19 #[P.v, Q.v, A.v] W2 fun e w' => e = .returned (.bool true) ∧ Below W0.heap.size W2 w') := Lib.hid (fun W0 W1 W2 P Q h1 h2 h3 b e1 e2 hN => by
    have hb : A.c.Bd 1099511627776 := hAB.c.nd' (by decide)
    refine (both_keep h1 h2 h3 (Nat.le_refl _) b.size b (Below.refl _ _) (fun w' ho => hN w' (ho.below (Nat.le_trans h3 b.size))) (NC.Bd.nd (by rw [e1]; exact hb)) (NC.Bd.nd (by rw [e2]; exact hb)) e1 e2).mono fun e w' hh => ⟨hh.1, hh.2.1⟩)
  have HKP : Hid (∀ (lo : Nat) (W : World) (P M : Nd), LentNd lo W P → NdIn W M → P.Same M → Calls Try.prog 21 #[P.v, M.v] W fun e w' => e = .returned (.bool true) ∧ Below W.heap.size W w') := Lib.hid (fun lo W P M h1 h2 h3 => kept_true W P M h1 h2 h3)
  unfold Nd.cells at hV2
  unfold Nd.v Nd.cells at HND HCK HCR HEQ HEQT HER HCL HBO HKP ⊢
  rw [hV2] at HAW
  clear hV hA hB hAB hBB hS em eka ekb x0 x1 hbV
  go_enter Try.func5, Try.ntmps5
  go_wp2_with fail
  refine HAW.out.mono ?_
  rintro e w1 ⟨rfl, b1⟩
  rw [← hV2] at b1
  have HB1 := Lib.hid b1
  clear b1 hV2 HAW
  go_wp2_with fail
  go_loopw [15] (fun v wr => ∃ i : Nat, v = .int .i64 (i : Nat) ∧ i ≤ m ∧ Below V.heap.size V wr) (fun v _ => m - (intOf v).toNat)
  case atStart => exact ⟨0, rfl, Nat.zero_le _, HB1.out⟩
  case round =>
    obtain ⟨i, rfl, hi, hb⟩ := hrel
    by_cases hlt : i < m
    · have p1 : (i : Int) < (m : Int) := by omega
      have p0 : (0 : Int) ≤ (i : Int) := by omega
      have w1' : IntKind.i64.wrap ((i : Int) + 1) = (i : Int) + 1 := IntWalk.i64_in _ (by omega)
      obtain ⟨s, hs⟩ : ∃ s, S[i]? = some s := ⟨_, List.getElem?_eq_getElem (by rw [← HM.out]; exact hlt)⟩
      obtain ⟨hsz, b0, o0, rfl, hl0, c0⟩ := HSS.out i s hs
      have hlow := (KST.out wr hb).2.2
      have c1 := (hlow.cell (p := ⟨b0, o0 + i, none⟩) hl0).trans c0
      have l1 := Nat.lt_of_lt_of_le hl0 hlow.size
      have HH := Lib.hid (And.intro hb hsz)
      obtain ⟨r, hr⟩ : ∃ r, r = namedD s := ⟨_, rfl⟩
      have hrr : (r != r) = false := by cases r <;> rfl
      have HC1 := Lib.hid (HN1.out wr s hsz)
      have HC2 := Lib.hid (fun W => HN2.out W s hsz)
      rw [← hr] at HC1 HC2
      clear hb hs c0 hl0 hlow hr hsz
      go_wp2_with (first | (go_at_call 12; refine HC1.out.mono ?_; rintro e w2 ⟨rfl, b2⟩; have HB2 := Lib.hid b2; clear b2) | (go_at_call 13; refine (HC2.out _).mono ?_; rintro e w3 ⟨rfl, rfl⟩))
      go_roundw
      case rel => exact ⟨i + 1, by go_num, hlt, HH.out.1.trans (HB2.out.mono HH.out.1.size)⟩
      case measure => simp [intOf]; omega
    · obtain rfl : i = m := by omega
      have p1 : ¬ (i : Int) < (i : Int) := by omega
      have HBe := Lib.hid hb
      clear hb hlt HN1 HN2 HSS HB1
      go_upto_region 8 with fail
      obtain ⟨we, hwe⟩ : ∃ we, we = wr := ⟨_, rfl⟩
      rw [← hwe]
      rw [← hwe] at HBe
      clear hwe
      have HSP : Hid (∀ W, Below we.heap.size we W → (W.cell? ⟨w.heap.size, 0, none⟩ = some (.int .i64 A.kind) ∧ W.cell? ⟨w.heap.size, 1, none⟩ = some (.string A.name) ∧ W.cell? ⟨w.heap.size, 2, none⟩ = some (.slice A.da A.data.length A.dc) ∧ W.cell? ⟨w.heap.size, 3, none⟩ = some (.slice A.aa A.L.length A.ac) ∧ W.cell? ⟨w.heap.size, 4, none⟩ = some (.int .u32 A.slot) ∧ W.cell? ⟨w.heap.size, 5, none⟩ = some (.int .u32 A.gen) ∧ W.cell? ⟨w.heap.size + 1, 0, none⟩ = some (.int .i64 B.kind) ∧ W.cell? ⟨w.heap.size + 1, 1, none⟩ = some (.string B.name) ∧ W.cell? ⟨w.heap.size + 1, 2, none⟩ = some (.slice B.da B.data.length B.dc) ∧ W.cell? ⟨w.heap.size + 1, 3, none⟩ = some (.slice B.aa B.L.length B.ac) ∧ W.cell? ⟨w.heap.size + 1, 4, none⟩ = some (.int .u32 B.slot) ∧ W.cell? ⟨w.heap.size + 1, 5, none⟩ = some (.int .u32 B.gen))) := Lib.hid (fun W b => by
        obtain ⟨a0, a1, a2, a3, a4, a5, _⟩ := box_cells (KST.out W (HBe.out.trans (b.mono HBe.out.size))).1.x
        obtain ⟨c0, c1, c2, c3, c4, c5, _⟩ := box_cells (KST.out W (HBe.out.trans (b.mono HBe.out.size))).2.1.x
        exact ⟨a0, a1, a2, a3, a4, a5, c0, c1, c2, c3, c4, c5⟩)
      go_cut [10, 11] from 25 to 28 (fun v10 v11 W => ∃ (g1 g2 : Nat) (M1 M2 : Nd), v10 = .pointer (some ⟨g1, 0, none⟩) ∧ v11 = .pointer (some ⟨g2, 0, none⟩) ∧ LnBx w.heap.size g1 A M1 W ∧ LnBx w.heap.size g2 B M2 W ∧ Below we.heap.size we W)
      case first =>
        have hdr : Below we.heap.size we we.drew := (Below.refl _ _).drew
        have HDR := Lib.hid hdr
        clear hdr
        have hwe : w.heap.size ≤ we.heap.size := (KST.out we HBe.out).2.2.size
        have HWE := Lib.hid hwe
        clear hwe
        refine wp_region_held_drew (S := fun W => (W.cell? ⟨w.heap.size, 0, none⟩ = some (.int .i64 A.kind) ∧ W.cell? ⟨w.heap.size, 1, none⟩ = some (.string A.name) ∧ W.cell? ⟨w.heap.size, 2, none⟩ = some (.slice A.da A.data.length A.dc) ∧ W.cell? ⟨w.heap.size, 3, none⟩ = some (.slice A.aa A.L.length A.ac) ∧ W.cell? ⟨w.heap.size, 4, none⟩ = some (.int .u32 A.slot) ∧ W.cell? ⟨w.heap.size, 5, none⟩ = some (.int .u32 A.gen) ∧ W.cell? ⟨w.heap.size + 1, 0, none⟩ = some (.int .i64 B.kind) ∧ W.cell? ⟨w.heap.size + 1, 1, none⟩ = some (.string B.name) ∧ W.cell? ⟨w.heap.size + 1, 2, none⟩ = some (.slice B.da B.data.length B.dc) ∧ W.cell? ⟨w.heap.size + 1, 3, none⟩ = some (.slice B.aa B.L.length B.ac) ∧ W.cell? ⟨w.heap.size + 1, 4, none⟩ = some (.int .u32 B.slot) ∧ W.cell? ⟨w.heap.size + 1, 5, none⟩ = some (.int .u32 B.gen))) (by kernel_rfl) (HSP.out we (Below.refl _ _)) (fun hHeld => ?_)
        refine wpAnyH_take (i := 0) (v := ?_) rfl (by kernel_rfl) (by kernel_rfl) (by kernel_rfl) (fun _ _ _ h => h) (Or.inl ⟨by first | kernel_rfl | rfl, ?_⟩) (by assumption) ?_
        rotate_left
        · intro w hSw; (try dsimp only at hSw); go_simp; try with_reducible rfl
        refine wpAnyH_take (i := 2) (v := ?_) rfl (by kernel_rfl) (by kernel_rfl) (by kernel_rfl) (fun _ _ _ h => h) (Or.inl ⟨by first | kernel_rfl | rfl, ?_⟩) (by assumption) ?_
        rotate_left
        · intro w hSw; (try dsimp only at hSw); go_simp; try with_reducible rfl
        refine wpAnyH_ready (rs := [1, 4, 5]) (by kernel_rfl) (by simp) ?_
        refine AllReadyH.cons rfl (fun K' hK => ?_) (AllReadyH.cons rfl (fun K' hK => ?_) (AllReadyH.cons rfl (fun K' hK => ?_) AllReadyH.nil))
        · go_simp
          go_at_call 14
          refine (HND.out _ A (KST.out _ (HBe.out.trans (HDR.out.mono HBe.out.size))).1.nd HBD.out.1).mono ?_
          rintro e Y1 ⟨M1, rfl, hs, hl, b⟩
          have HY1 : Hid (Below we.heap.size we Y1) := Lib.hid (HDR.out.trans (b.mono HDR.out.size))
          have HL1 : Hid (LentNd w.heap.size Y1 M1 ∧ M1.Same A) := Lib.hid ⟨hl.mono (Nat.le_trans HWE.out HDR.out.size), hs⟩
          clear hs hl b
          refine hK.out _ _ (HSP.out _ HY1.out) (fun hHeld => ?_)
          clear hK K'
          refine wpAnyH_ready (rs := [3, 4, 5]) (by kernel_rfl) (by simp) ?_
          refine AllReadyH.cons rfl (fun K' hK => ?_) (AllReadyH.cons rfl (fun K' hK => ?_) (AllReadyH.cons rfl (fun K' hK => ?_) AllReadyH.nil))
          · go_simp
            go_at_call 14
            refine (HND.out _ B (KST.out _ (HBe.out.trans (HY1.out.mono HBe.out.size))).2.1.nd HBD.out.2).mono ?_
            rintro e Y2 ⟨M2, rfl, hs, hl, b⟩
            have HY2 : Hid (Below we.heap.size we Y2) := Lib.hid (HY1.out.trans (b.mono HY1.out.size))
            have HL2 : Hid (LentNd w.heap.size Y2 M2 ∧ M2.Same B) := Lib.hid ⟨hl.mono (Nat.le_trans HWE.out HY1.out.size), hs⟩
            replace HL1 : Hid (LentNd w.heap.size Y2 M1 ∧ M1.Same A) := Lib.hid ⟨HL1.out.1.below b, HL1.out.2⟩
            clear hs hl b
            refine hK.out _ _ (HSP.out _ HY2.out) (fun hHeld => ?_)
            clear hK K'
            refine wpAnyH_ready (rs := [4, 5]) (by kernel_rfl) (by simp) ?_
            refine AllReadyH.cons rfl (fun K' hK => ?_) (AllReadyH.cons rfl (fun K' hK => ?_) AllReadyH.nil)
            · go_simp
              obtain ⟨Y3, hU⟩ : ∃ U, U = Y2.alloc (.cells #[.int .i64 0, .string ⟨#[]⟩, .slice none 0 0, .slice none 0 0, .int .u32 0, .int .u32 0] 30) := ⟨_, rfl⟩
              rw [← hU]
              have b : Below Y2.heap.size Y2 Y3 := by rw [hU]; exact (Below.refl _ _).alloc (Nat.le_refl _) _
              have z : Y3.heap[Y2.heap.size]? = some (.cells #[.int .i64 0, .string ⟨#[]⟩, .slice none 0 0, .slice none 0 0, .int .u32 0, .int .u32 0] 30 (0, 0)) := by rw [hU]; exact Go.heap_alloc_new Y2 _
              have HY3 : Hid (Below we.heap.size we Y3) := Lib.hid (HY2.out.trans (b.mono HY2.out.size))
              have HZ4 : Hid (Y3.heap[Y2.heap.size]? = some (.cells #[.int .i64 0, .string ⟨#[]⟩, .slice none 0 0, .slice none 0 0, .int .u32 0, .int .u32 0] 30 (0, 0)) ∧ we.heap.size ≤ Y2.heap.size) := Lib.hid ⟨z, HY2.out.size⟩
              replace HL1 : Hid (LentNd w.heap.size Y3 M1 ∧ M1.Same A) := Lib.hid ⟨HL1.out.1.below b, HL1.out.2⟩
              replace HL2 : Hid (LentNd w.heap.size Y3 M2 ∧ M2.Same B) := Lib.hid ⟨HL2.out.1.below b, HL2.out.2⟩
              clear hU b z
              refine hK.out _ _ (HSP.out _ HY3.out) (fun hHeld => ?_)
              clear hK K'
              refine wpAnyH_ready (rs := [5]) (by kernel_rfl) (by simp) ?_
              refine AllReadyH.cons rfl (fun K' hK => ?_) AllReadyH.nil
              go_simp
              obtain ⟨Y4, hU⟩ : ∃ U, U = Y3.alloc (.cells #[.int .i64 0, .string ⟨#[]⟩, .slice none 0 0, .slice none 0 0, .int .u32 0, .int .u32 0] 30) := ⟨_, rfl⟩
              rw [← hU]
              have b : Below Y3.heap.size Y3 Y4 := by rw [hU]; exact (Below.refl _ _).alloc (Nat.le_refl _) _
              have z : Y4.heap[Y3.heap.size]? = some (.cells #[.int .i64 0, .string ⟨#[]⟩, .slice none 0 0, .slice none 0 0, .int .u32 0, .int .u32 0] 30 (0, 0)) := by rw [hU]; exact Go.heap_alloc_new Y3 _
              have HY4 : Hid (Below we.heap.size we Y4) := Lib.hid (HY3.out.trans (b.mono HY3.out.size))
              have HNE : Hid (Y2.heap.size ≠ Y3.heap.size) := Lib.hid (Nat.ne_of_lt (lt_of_some HZ4.out.1))
              replace HZ4 := Lib.hid (And.intro ((b.block _ (lt_of_some HZ4.out.1)).trans HZ4.out.1) HZ4.out.2)
              have HZ5 : Hid (Y4.heap[Y3.heap.size]? = some (.cells #[.int .i64 0, .string ⟨#[]⟩, .slice none 0 0, .slice none 0 0, .int .u32 0, .int .u32 0] 30 (0, 0)) ∧ we.heap.size ≤ Y3.heap.size) := Lib.hid ⟨z, HY3.out.size⟩
              replace HL1 : Hid (LentNd w.heap.size Y4 M1 ∧ M1.Same A) := Lib.hid ⟨HL1.out.1.below b, HL1.out.2⟩
              replace HL2 : Hid (LentNd w.heap.size Y4 M2 ∧ M2.Same B) := Lib.hid ⟨HL2.out.1.below b, HL2.out.2⟩
              clear hU b z
              refine hK.out _ _ (HSP.out _ HY4.out) (fun hHeld => ?_)
              clear hK K'
              have hne : Y2.heap.size ≠ Y3.heap.size := by first | exact HNE.out | exact Ne.symm HNE.out
              obtain ⟨U3, hU3, hb3, hf3, U4, hU4, hb4, hx1, hx2⟩ := two_fill (we := we) (U := Y4) (g1 := Y2.heap.size) (g2 := Y3.heap.size) M1 M2 HY4.out HZ4.out.2 HZ5.out.2 hne HZ4.out.1 HZ5.out.1
              have k1 := ln_fill HL1.out.1 hne HZ4.out.1 HZ5.out.1 hU3 hU4
              have k2 := ln_fill HL2.out.1 hne HZ4.out.1 HZ5.out.1 hU3 hU4
              have hf2 : ∀ j, Y4.frozen? ⟨Y2.heap.size, j, none⟩ = false := fun j => free_blk HZ4.out.1 j
              obtain ⟨q0, q1, q2, q3, q4, q5, lq⟩ := box_cells (N := Nd.zero) HZ4.out.1
              have HF := Lib.hid (And.intro hb3 (And.intro hb4 (And.intro hx1 (And.intro hx2 (And.intro hU3 (And.intro hU4 (And.intro k1 k2)))))))
              clear hb3 hb4 hx1 hx2 hU3 hU4 hne k1 k2
              refine wpAnyH_ready (rs := [6]) (by kernel_rfl) (by simp) ?_
              refine AllReadyH.cons rfl (fun K' hK => ?_) AllReadyH.nil
              go_simp
              rw [HF.out.2.2.2.2.1]
              clear hf2 q0 q1 q2 q3 q4 q5 lq
              obtain ⟨q0, q1, q2, q3, q4, q5, lq⟩ := box_cells (N := Nd.zero) hf3
              have hf4 := fun j => free_blk hf3 j
              clear hf3
              refine hK.out _ _ (HSP.out _ HF.out.1) (fun hHeld => ?_)
              clear hK K'
              refine wpAnyH_ready (rs := [7]) (by kernel_rfl) (by simp) ?_
              refine AllReadyH.cons rfl (fun K' hK => ?_) AllReadyH.nil
              go_simp
              rw [HF.out.2.2.2.2.2.1]
              clear hf4 q0 q1 q2 q3 q4 q5 lq
              refine hK.out _ _ (HSP.out _ HF.out.2.1) (fun hHeld => ?_)
              clear hK K'
              refine wpAnyH_done (by kernel_rfl) ?_ _
              clear hHeld
              go_wp2_with fail
              go_meet
              exact ⟨Y2.heap.size, Y3.heap.size, M1, M2, rfl, rfl, ⟨HF.out.2.2.1, HF.out.2.2.2.2.2.2.1, HL1.out.2⟩, ⟨HF.out.2.2.2.1, HF.out.2.2.2.2.2.2.2, HL2.out.2⟩, HF.out.2.1⟩
            · go_simp
              obtain ⟨Y5, hU⟩ : ∃ U, U = Y2.alloc (.cells #[.int .i64 0, .string ⟨#[]⟩, .slice none 0 0, .slice none 0 0, .int .u32 0, .int .u32 0] 30) := ⟨_, rfl⟩
              rw [← hU]
              have b : Below Y2.heap.size Y2 Y5 := by rw [hU]; exact (Below.refl _ _).alloc (Nat.le_refl _) _
              have z : Y5.heap[Y2.heap.size]? = some (.cells #[.int .i64 0, .string ⟨#[]⟩, .slice none 0 0, .slice none 0 0, .int .u32 0, .int .u32 0] 30 (0, 0)) := by rw [hU]; exact Go.heap_alloc_new Y2 _
              have HY5 : Hid (Below we.heap.size we Y5) := Lib.hid (HY2.out.trans (b.mono HY2.out.size))
              have HZ5 : Hid (Y5.heap[Y2.heap.size]? = some (.cells #[.int .i64 0, .string ⟨#[]⟩, .slice none 0 0, .slice none 0 0, .int .u32 0, .int .u32 0] 30 (0, 0)) ∧ we.heap.size ≤ Y2.heap.size) := Lib.hid ⟨z, HY2.out.size⟩
              replace HL1 : Hid (LentNd w.heap.size Y5 M1 ∧ M1.Same A) := Lib.hid ⟨HL1.out.1.below b, HL1.out.2⟩
              replace HL2 : Hid (LentNd w.heap.size Y5 M2 ∧ M2.Same B) := Lib.hid ⟨HL2.out.1.below b, HL2.out.2⟩
              clear hU b z
              refine hK.out _ _ (HSP.out _ HY5.out) (fun hHeld => ?_)
              clear hK K'
              refine wpAnyH_ready (rs := [4]) (by kernel_rfl) (by simp) ?_
              refine AllReadyH.cons rfl (fun K' hK => ?_) AllReadyH.nil
              go_simp
              obtain ⟨Y6, hU⟩ : ∃ U, U = Y5.alloc (.cells #[.int .i64 0, .string ⟨#[]⟩, .slice none 0 0, .slice none 0 0, .int .u32 0, .int .u32 0] 30) := ⟨_, rfl⟩
              rw [← hU]
              have b : Below Y5.heap.size Y5 Y6 := by rw [hU]; exact (Below.refl _ _).alloc (Nat.le_refl _) _
              have z : Y6.heap[Y5.heap.size]? = some (.cells #[.int .i64 0, .string ⟨#[]⟩, .slice none 0 0, .slice none 0 0, .int .u32 0, .int .u32 0] 30 (0, 0)) := by rw [hU]; exact Go.heap_alloc_new Y5 _
              have HY6 : Hid (Below we.heap.size we Y6) := Lib.hid (HY5.out.trans (b.mono HY5.out.size))
              have HNE : Hid (Y2.heap.size ≠ Y5.heap.size) := Lib.hid (Nat.ne_of_lt (lt_of_some HZ5.out.1))
              replace HZ5 := Lib.hid (And.intro ((b.block _ (lt_of_some HZ5.out.1)).trans HZ5.out.1) HZ5.out.2)
              have HZ4 : Hid (Y6.heap[Y5.heap.size]? = some (.cells #[.int .i64 0, .string ⟨#[]⟩, .slice none 0 0, .slice none 0 0, .int .u32 0, .int .u32 0] 30 (0, 0)) ∧ we.heap.size ≤ Y5.heap.size) := Lib.hid ⟨z, HY5.out.size⟩
              replace HL1 : Hid (LentNd w.heap.size Y6 M1 ∧ M1.Same A) := Lib.hid ⟨HL1.out.1.below b, HL1.out.2⟩
              replace HL2 : Hid (LentNd w.heap.size Y6 M2 ∧ M2.Same B) := Lib.hid ⟨HL2.out.1.below b, HL2.out.2⟩
              clear hU b z
              refine hK.out _ _ (HSP.out _ HY6.out) (fun hHeld => ?_)
              clear hK K'
              have hne : Y5.heap.size ≠ Y2.heap.size := by first | exact HNE.out | exact Ne.symm HNE.out
              obtain ⟨U3, hU3, hb3, hf3, U4, hU4, hb4, hx1, hx2⟩ := two_fill (we := we) (U := Y6) (g1 := Y5.heap.size) (g2 := Y2.heap.size) M1 M2 HY6.out HZ4.out.2 HZ5.out.2 hne HZ4.out.1 HZ5.out.1
              have k1 := ln_fill HL1.out.1 hne HZ4.out.1 HZ5.out.1 hU3 hU4
              have k2 := ln_fill HL2.out.1 hne HZ4.out.1 HZ5.out.1 hU3 hU4
              have hf2 : ∀ j, Y6.frozen? ⟨Y5.heap.size, j, none⟩ = false := fun j => free_blk HZ4.out.1 j
              obtain ⟨q0, q1, q2, q3, q4, q5, lq⟩ := box_cells (N := Nd.zero) HZ4.out.1
              have HF := Lib.hid (And.intro hb3 (And.intro hb4 (And.intro hx1 (And.intro hx2 (And.intro hU3 (And.intro hU4 (And.intro k1 k2)))))))
              clear hb3 hb4 hx1 hx2 hU3 hU4 hne k1 k2
              refine wpAnyH_ready (rs := [6]) (by kernel_rfl) (by simp) ?_
              refine AllReadyH.cons rfl (fun K' hK => ?_) AllReadyH.nil
              go_simp
              rw [HF.out.2.2.2.2.1]
              clear hf2 q0 q1 q2 q3 q4 q5 lq
              obtain ⟨q0, q1, q2, q3, q4, q5, lq⟩ := box_cells (N := Nd.zero) hf3
              have hf4 := fun j => free_blk hf3 j
              clear hf3
              refine hK.out _ _ (HSP.out _ HF.out.1) (fun hHeld => ?_)
              clear hK K'
              refine wpAnyH_ready (rs := [7]) (by kernel_rfl) (by simp) ?_
              refine AllReadyH.cons rfl (fun K' hK => ?_) AllReadyH.nil
              go_simp
              rw [HF.out.2.2.2.2.2.1]
              clear hf4 q0 q1 q2 q3 q4 q5 lq
              refine hK.out _ _ (HSP.out _ HF.out.2.1) (fun hHeld => ?_)
              clear hK K'
              refine wpAnyH_done (by kernel_rfl) ?_ _
              clear hHeld
              go_wp2_with fail
              go_meet
              exact ⟨Y5.heap.size, Y2.heap.size, M1, M2, rfl, rfl, ⟨HF.out.2.2.1, HF.out.2.2.2.2.2.2.1, HL1.out.2⟩, ⟨HF.out.2.2.2.1, HF.out.2.2.2.2.2.2.2, HL2.out.2⟩, HF.out.2.1⟩
          · go_simp
            obtain ⟨Y7, hU⟩ : ∃ U, U = Y1.alloc (.cells #[.int .i64 0, .string ⟨#[]⟩, .slice none 0 0, .slice none 0 0, .int .u32 0, .int .u32 0] 30) := ⟨_, rfl⟩
            rw [← hU]
            have b : Below Y1.heap.size Y1 Y7 := by rw [hU]; exact (Below.refl _ _).alloc (Nat.le_refl _) _
            have z : Y7.heap[Y1.heap.size]? = some (.cells #[.int .i64 0, .string ⟨#[]⟩, .slice none 0 0, .slice none 0 0, .int .u32 0, .int .u32 0] 30 (0, 0)) := by rw [hU]; exact Go.heap_alloc_new Y1 _
            have HY7 : Hid (Below we.heap.size we Y7) := Lib.hid (HY1.out.trans (b.mono HY1.out.size))
            have HZ4 : Hid (Y7.heap[Y1.heap.size]? = some (.cells #[.int .i64 0, .string ⟨#[]⟩, .slice none 0 0, .slice none 0 0, .int .u32 0, .int .u32 0] 30 (0, 0)) ∧ we.heap.size ≤ Y1.heap.size) := Lib.hid ⟨z, HY1.out.size⟩
            replace HL1 : Hid (LentNd w.heap.size Y7 M1 ∧ M1.Same A) := Lib.hid ⟨HL1.out.1.below b, HL1.out.2⟩
            clear hU b z
            refine hK.out _ _ (HSP.out _ HY7.out) (fun hHeld => ?_)
            clear hK K'
            refine wpAnyH_ready (rs := [3, 5]) (by kernel_rfl) (by simp) ?_
            refine AllReadyH.cons rfl (fun K' hK => ?_) (AllReadyH.cons rfl (fun K' hK => ?_) AllReadyH.nil)
            · go_simp
              go_at_call 14
              refine (HND.out _ B (KST.out _ (HBe.out.trans (HY7.out.mono HBe.out.size))).2.1.nd HBD.out.2).mono ?_
              rintro e Y8 ⟨M2, rfl, hs, hl, b⟩
              have HY8 : Hid (Below we.heap.size we Y8) := Lib.hid (HY7.out.trans (b.mono HY7.out.size))
              have HL2 : Hid (LentNd w.heap.size Y8 M2 ∧ M2.Same B) := Lib.hid ⟨hl.mono (Nat.le_trans HWE.out HY7.out.size), hs⟩
              replace HL1 : Hid (LentNd w.heap.size Y8 M1 ∧ M1.Same A) := Lib.hid ⟨HL1.out.1.below b, HL1.out.2⟩
              replace HZ4 := Lib.hid (And.intro ((b.block _ (lt_of_some HZ4.out.1)).trans HZ4.out.1) HZ4.out.2)
              clear hs hl b
              refine hK.out _ _ (HSP.out _ HY8.out) (fun hHeld => ?_)
              clear hK K'
              refine wpAnyH_ready (rs := [5]) (by kernel_rfl) (by simp) ?_
              refine AllReadyH.cons rfl (fun K' hK => ?_) AllReadyH.nil
              go_simp
              obtain ⟨Y9, hU⟩ : ∃ U, U = Y8.alloc (.cells #[.int .i64 0, .string ⟨#[]⟩, .slice none 0 0, .slice none 0 0, .int .u32 0, .int .u32 0] 30) := ⟨_, rfl⟩
              rw [← hU]
              have b : Below Y8.heap.size Y8 Y9 := by rw [hU]; exact (Below.refl _ _).alloc (Nat.le_refl _) _
              have z : Y9.heap[Y8.heap.size]? = some (.cells #[.int .i64 0, .string ⟨#[]⟩, .slice none 0 0, .slice none 0 0, .int .u32 0, .int .u32 0] 30 (0, 0)) := by rw [hU]; exact Go.heap_alloc_new Y8 _
              have HY9 : Hid (Below we.heap.size we Y9) := Lib.hid (HY8.out.trans (b.mono HY8.out.size))
              have HNE : Hid (Y1.heap.size ≠ Y8.heap.size) := Lib.hid (Nat.ne_of_lt (lt_of_some HZ4.out.1))
              replace HZ4 := Lib.hid (And.intro ((b.block _ (lt_of_some HZ4.out.1)).trans HZ4.out.1) HZ4.out.2)
              have HZ5 : Hid (Y9.heap[Y8.heap.size]? = some (.cells #[.int .i64 0, .string ⟨#[]⟩, .slice none 0 0, .slice none 0 0, .int .u32 0, .int .u32 0] 30 (0, 0)) ∧ we.heap.size ≤ Y8.heap.size) := Lib.hid ⟨z, HY8.out.size⟩
              replace HL1 : Hid (LentNd w.heap.size Y9 M1 ∧ M1.Same A) := Lib.hid ⟨HL1.out.1.below b, HL1.out.2⟩
              replace HL2 : Hid (LentNd w.heap.size Y9 M2 ∧ M2.Same B) := Lib.hid ⟨HL2.out.1.below b, HL2.out.2⟩
              clear hU b z
              refine hK.out _ _ (HSP.out _ HY9.out) (fun hHeld => ?_)
              clear hK K'
              have hne : Y1.heap.size ≠ Y8.heap.size := by first | exact HNE.out | exact Ne.symm HNE.out
              obtain ⟨U3, hU3, hb3, hf3, U4, hU4, hb4, hx1, hx2⟩ := two_fill (we := we) (U := Y9) (g1 := Y1.heap.size) (g2 := Y8.heap.size) M1 M2 HY9.out HZ4.out.2 HZ5.out.2 hne HZ4.out.1 HZ5.out.1
              have k1 := ln_fill HL1.out.1 hne HZ4.out.1 HZ5.out.1 hU3 hU4
              have k2 := ln_fill HL2.out.1 hne HZ4.out.1 HZ5.out.1 hU3 hU4
              have hf2 : ∀ j, Y9.frozen? ⟨Y1.heap.size, j, none⟩ = false := fun j => free_blk HZ4.out.1 j
              obtain ⟨q0, q1, q2, q3, q4, q5, lq⟩ := box_cells (N := Nd.zero) HZ4.out.1
              have HF := Lib.hid (And.intro hb3 (And.intro hb4 (And.intro hx1 (And.intro hx2 (And.intro hU3 (And.intro hU4 (And.intro k1 k2)))))))
              clear hb3 hb4 hx1 hx2 hU3 hU4 hne k1 k2
              refine wpAnyH_ready (rs := [6]) (by kernel_rfl) (by simp) ?_
              refine AllReadyH.cons rfl (fun K' hK => ?_) AllReadyH.nil
              go_simp
              rw [HF.out.2.2.2.2.1]
              clear hf2 q0 q1 q2 q3 q4 q5 lq
              obtain ⟨q0, q1, q2, q3, q4, q5, lq⟩ := box_cells (N := Nd.zero) hf3
              have hf4 := fun j => free_blk hf3 j
              clear hf3
              refine hK.out _ _ (HSP.out _ HF.out.1) (fun hHeld => ?_)
              clear hK K'
              refine wpAnyH_ready (rs := [7]) (by kernel_rfl) (by simp) ?_
              refine AllReadyH.cons rfl (fun K' hK => ?_) AllReadyH.nil
              go_simp
              rw [HF.out.2.2.2.2.2.1]
              clear hf4 q0 q1 q2 q3 q4 q5 lq
              refine hK.out _ _ (HSP.out _ HF.out.2.1) (fun hHeld => ?_)
              clear hK K'
              refine wpAnyH_done (by kernel_rfl) ?_ _
              clear hHeld
              go_wp2_with fail
              go_meet
              exact ⟨Y1.heap.size, Y8.heap.size, M1, M2, rfl, rfl, ⟨HF.out.2.2.1, HF.out.2.2.2.2.2.2.1, HL1.out.2⟩, ⟨HF.out.2.2.2.1, HF.out.2.2.2.2.2.2.2, HL2.out.2⟩, HF.out.2.1⟩
            · go_simp
              obtain ⟨Y10, hU⟩ : ∃ U, U = Y7.alloc (.cells #[.int .i64 0, .string ⟨#[]⟩, .slice none 0 0, .slice none 0 0, .int .u32 0, .int .u32 0] 30) := ⟨_, rfl⟩
              rw [← hU]
              have b : Below Y7.heap.size Y7 Y10 := by rw [hU]; exact (Below.refl _ _).alloc (Nat.le_refl _) _
              have z : Y10.heap[Y7.heap.size]? = some (.cells #[.int .i64 0, .string ⟨#[]⟩, .slice none 0 0, .slice none 0 0, .int .u32 0, .int .u32 0] 30 (0, 0)) := by rw [hU]; exact Go.heap_alloc_new Y7 _
              have HY10 : Hid (Below we.heap.size we Y10) := Lib.hid (HY7.out.trans (b.mono HY7.out.size))
              have HNE : Hid (Y1.heap.size ≠ Y7.heap.size) := Lib.hid (Nat.ne_of_lt (lt_of_some HZ4.out.1))
              replace HZ4 := Lib.hid (And.intro ((b.block _ (lt_of_some HZ4.out.1)).trans HZ4.out.1) HZ4.out.2)
              have HZ5 : Hid (Y10.heap[Y7.heap.size]? = some (.cells #[.int .i64 0, .string ⟨#[]⟩, .slice none 0 0, .slice none 0 0, .int .u32 0, .int .u32 0] 30 (0, 0)) ∧ we.heap.size ≤ Y7.heap.size) := Lib.hid ⟨z, HY7.out.size⟩
              replace HL1 : Hid (LentNd w.heap.size Y10 M1 ∧ M1.Same A) := Lib.hid ⟨HL1.out.1.below b, HL1.out.2⟩
              clear hU b z
              refine hK.out _ _ (HSP.out _ HY10.out) (fun hHeld => ?_)
              clear hK K'
              refine wpAnyH_ready (rs := [3]) (by kernel_rfl) (by simp) ?_
              refine AllReadyH.cons rfl (fun K' hK => ?_) AllReadyH.nil
              go_simp
              go_at_call 14
              refine (HND.out _ B (KST.out _ (HBe.out.trans (HY10.out.mono HBe.out.size))).2.1.nd HBD.out.2).mono ?_
              rintro e Y11 ⟨M2, rfl, hs, hl, b⟩
              have HY11 : Hid (Below we.heap.size we Y11) := Lib.hid (HY10.out.trans (b.mono HY10.out.size))
              have HL2 : Hid (LentNd w.heap.size Y11 M2 ∧ M2.Same B) := Lib.hid ⟨hl.mono (Nat.le_trans HWE.out HY10.out.size), hs⟩
              replace HL1 : Hid (LentNd w.heap.size Y11 M1 ∧ M1.Same A) := Lib.hid ⟨HL1.out.1.below b, HL1.out.2⟩
              replace HZ4 := Lib.hid (And.intro ((b.block _ (lt_of_some HZ4.out.1)).trans HZ4.out.1) HZ4.out.2)
              replace HZ5 := Lib.hid (And.intro ((b.block _ (lt_of_some HZ5.out.1)).trans HZ5.out.1) HZ5.out.2)
              clear hs hl b
              refine hK.out _ _ (HSP.out _ HY11.out) (fun hHeld => ?_)
              clear hK K'
              have hne : Y1.heap.size ≠ Y7.heap.size := by first | exact HNE.out | exact Ne.symm HNE.out
              obtain ⟨U3, hU3, hb3, hf3, U4, hU4, hb4, hx1, hx2⟩ := two_fill (we := we) (U := Y11) (g1 := Y1.heap.size) (g2 := Y7.heap.size) M1 M2 HY11.out HZ4.out.2 HZ5.out.2 hne HZ4.out.1 HZ5.out.1
              have k1 := ln_fill HL1.out.1 hne HZ4.out.1 HZ5.out.1 hU3 hU4
              have k2 := ln_fill HL2.out.1 hne HZ4.out.1 HZ5.out.1 hU3 hU4
              have hf2 : ∀ j, Y11.frozen? ⟨Y1.heap.size, j, none⟩ = false := fun j => free_blk HZ4.out.1 j
              obtain ⟨q0, q1, q2, q3, q4, q5, lq⟩ := box_cells (N := Nd.zero) HZ4.out.1
              have HF := Lib.hid (And.intro hb3 (And.intro hb4 (And.intro hx1 (And.intro hx2 (And.intro hU3 (And.intro hU4 (And.intro k1 k2)))))))
              clear hb3 hb4 hx1 hx2 hU3 hU4 hne k1 k2
              refine wpAnyH_ready (rs := [6]) (by kernel_rfl) (by simp) ?_
              refine AllReadyH.cons rfl (fun K' hK => ?_) AllReadyH.nil
              go_simp
              rw [HF.out.2.2.2.2.1]
              clear hf2 q0 q1 q2 q3 q4 q5 lq
              obtain ⟨q0, q1, q2, q3, q4, q5, lq⟩ := box_cells (N := Nd.zero) hf3
              have hf4 := fun j => free_blk hf3 j
              clear hf3
              refine hK.out _ _ (HSP.out _ HF.out.1) (fun hHeld => ?_)
              clear hK K'
              refine wpAnyH_ready (rs := [7]) (by kernel_rfl) (by simp) ?_
              refine AllReadyH.cons rfl (fun K' hK => ?_) AllReadyH.nil
              go_simp
              rw [HF.out.2.2.2.2.2.1]
              clear hf4 q0 q1 q2 q3 q4 q5 lq
              refine hK.out _ _ (HSP.out _ HF.out.2.1) (fun hHeld => ?_)
              clear hK K'
              refine wpAnyH_done (by kernel_rfl) ?_ _
              clear hHeld
              go_wp2_with fail
              go_meet
              exact ⟨Y1.heap.size, Y7.heap.size, M1, M2, rfl, rfl, ⟨HF.out.2.2.1, HF.out.2.2.2.2.2.2.1, HL1.out.2⟩, ⟨HF.out.2.2.2.1, HF.out.2.2.2.2.2.2.2, HL2.out.2⟩, HF.out.2.1⟩
          · go_simp
            obtain ⟨Y12, hU⟩ : ∃ U, U = Y1.alloc (.cells #[.int .i64 0, .string ⟨#[]⟩, .slice none 0 0, .slice none 0 0, .int .u32 0, .int .u32 0] 30) := ⟨_, rfl⟩
            rw [← hU]
            have b : Below Y1.heap.size Y1 Y12 := by rw [hU]; exact (Below.refl _ _).alloc (Nat.le_refl _) _
            have z : Y12.heap[Y1.heap.size]? = some (.cells #[.int .i64 0, .string ⟨#[]⟩, .slice none 0 0, .slice none 0 0, .int .u32 0, .int .u32 0] 30 (0, 0)) := by rw [hU]; exact Go.heap_alloc_new Y1 _
            have HY12 : Hid (Below we.heap.size we Y12) := Lib.hid (HY1.out.trans (b.mono HY1.out.size))
            have HZ5 : Hid (Y12.heap[Y1.heap.size]? = some (.cells #[.int .i64 0, .string ⟨#[]⟩, .slice none 0 0, .slice none 0 0, .int .u32 0, .int .u32 0] 30 (0, 0)) ∧ we.heap.size ≤ Y1.heap.size) := Lib.hid ⟨z, HY1.out.size⟩
            replace HL1 : Hid (LentNd w.heap.size Y12 M1 ∧ M1.Same A) := Lib.hid ⟨HL1.out.1.below b, HL1.out.2⟩
            clear hU b z
            refine hK.out _ _ (HSP.out _ HY12.out) (fun hHeld => ?_)
            clear hK K'
            refine wpAnyH_ready (rs := [3, 4]) (by kernel_rfl) (by simp) ?_
            refine AllReadyH.cons rfl (fun K' hK => ?_) (AllReadyH.cons rfl (fun K' hK => ?_) AllReadyH.nil)
            · go_simp
              go_at_call 14
              refine (HND.out _ B (KST.out _ (HBe.out.trans (HY12.out.mono HBe.out.size))).2.1.nd HBD.out.2).mono ?_
              rintro e Y13 ⟨M2, rfl, hs, hl, b⟩
              have HY13 : Hid (Below we.heap.size we Y13) := Lib.hid (HY12.out.trans (b.mono HY12.out.size))
              have HL2 : Hid (LentNd w.heap.size Y13 M2 ∧ M2.Same B) := Lib.hid ⟨hl.mono (Nat.le_trans HWE.out HY12.out.size), hs⟩
              replace HL1 : Hid (LentNd w.heap.size Y13 M1 ∧ M1.Same A) := Lib.hid ⟨HL1.out.1.below b, HL1.out.2⟩
              replace HZ5 := Lib.hid (And.intro ((b.block _ (lt_of_some HZ5.out.1)).trans HZ5.out.1) HZ5.out.2)
              clear hs hl b
              refine hK.out _ _ (HSP.out _ HY13.out) (fun hHeld => ?_)
              clear hK K'
              refine wpAnyH_ready (rs := [4]) (by kernel_rfl) (by simp) ?_
              refine AllReadyH.cons rfl (fun K' hK => ?_) AllReadyH.nil
              go_simp
              obtain ⟨Y14, hU⟩ : ∃ U, U = Y13.alloc (.cells #[.int .i64 0, .string ⟨#[]⟩, .slice none 0 0, .slice none 0 0, .int .u32 0, .int .u32 0] 30) := ⟨_, rfl⟩
              rw [← hU]
              have b : Below Y13.heap.size Y13 Y14 := by rw [hU]; exact (Below.refl _ _).alloc (Nat.le_refl _) _
              have z : Y14.heap[Y13.heap.size]? = some (.cells #[.int .i64 0, .string ⟨#[]⟩, .slice none 0 0, .slice none 0 0, .int .u32 0, .int .u32 0] 30 (0, 0)) := by rw [hU]; exact Go.heap_alloc_new Y13 _
              have HY14 : Hid (Below we.heap.size we Y14) := Lib.hid (HY13.out.trans (b.mono HY13.out.size))
              have HNE : Hid (Y1.heap.size ≠ Y13.heap.size) := Lib.hid (Nat.ne_of_lt (lt_of_some HZ5.out.1))
              replace HZ5 := Lib.hid (And.intro ((b.block _ (lt_of_some HZ5.out.1)).trans HZ5.out.1) HZ5.out.2)
              have HZ4 : Hid (Y14.heap[Y13.heap.size]? = some (.cells #[.int .i64 0, .string ⟨#[]⟩, .slice none 0 0, .slice none 0 0, .int .u32 0, .int .u32 0] 30 (0, 0)) ∧ we.heap.size ≤ Y13.heap.size) := Lib.hid ⟨z, HY13.out.size⟩
              replace HL1 : Hid (LentNd w.heap.size Y14 M1 ∧ M1.Same A) := Lib.hid ⟨HL1.out.1.below b, HL1.out.2⟩
              replace HL2 : Hid (LentNd w.heap.size Y14 M2 ∧ M2.Same B) := Lib.hid ⟨HL2.out.1.below b, HL2.out.2⟩
              clear hU b z
              refine hK.out _ _ (HSP.out _ HY14.out) (fun hHeld => ?_)
              clear hK K'
              have hne : Y13.heap.size ≠ Y1.heap.size := by first | exact HNE.out | exact Ne.symm HNE.out
              obtain ⟨U3, hU3, hb3, hf3, U4, hU4, hb4, hx1, hx2⟩ := two_fill (we := we) (U := Y14) (g1 := Y13.heap.size) (g2 := Y1.heap.size) M1 M2 HY14.out HZ4.out.2 HZ5.out.2 hne HZ4.out.1 HZ5.out.1
              have k1 := ln_fill HL1.out.1 hne HZ4.out.1 HZ5.out.1 hU3 hU4
              have k2 := ln_fill HL2.out.1 hne HZ4.out.1 HZ5.out.1 hU3 hU4
              have hf2 : ∀ j, Y14.frozen? ⟨Y13.heap.size, j, none⟩ = false := fun j => free_blk HZ4.out.1 j
              obtain ⟨q0, q1, q2, q3, q4, q5, lq⟩ := box_cells (N := Nd.zero) HZ4.out.1
              have HF := Lib.hid (And.intro hb3 (And.intro hb4 (And.intro hx1 (And.intro hx2 (And.intro hU3 (And.intro hU4 (And.intro k1 k2)))))))
              clear hb3 hb4 hx1 hx2 hU3 hU4 hne k1 k2
              refine wpAnyH_ready (rs := [6]) (by kernel_rfl) (by simp) ?_
              refine AllReadyH.cons rfl (fun K' hK => ?_) AllReadyH.nil
              go_simp
              rw [HF.out.2.2.2.2.1]
              clear hf2 q0 q1 q2 q3 q4 q5 lq
              obtain ⟨q0, q1, q2, q3, q4, q5, lq⟩ := box_cells (N := Nd.zero) hf3
              have hf4 := fun j => free_blk hf3 j
              clear hf3
              refine hK.out _ _ (HSP.out _ HF.out.1) (fun hHeld => ?_)
              clear hK K'
              refine wpAnyH_ready (rs := [7]) (by kernel_rfl) (by simp) ?_
              refine AllReadyH.cons rfl (fun K' hK => ?_) AllReadyH.nil
              go_simp
              rw [HF.out.2.2.2.2.2.1]
              clear hf4 q0 q1 q2 q3 q4 q5 lq
              refine hK.out _ _ (HSP.out _ HF.out.2.1) (fun hHeld => ?_)
              clear hK K'
              refine wpAnyH_done (by kernel_rfl) ?_ _
              clear hHeld
              go_wp2_with fail
              go_meet
              exact ⟨Y13.heap.size, Y1.heap.size, M1, M2, rfl, rfl, ⟨HF.out.2.2.1, HF.out.2.2.2.2.2.2.1, HL1.out.2⟩, ⟨HF.out.2.2.2.1, HF.out.2.2.2.2.2.2.2, HL2.out.2⟩, HF.out.2.1⟩
            · go_simp
              obtain ⟨Y15, hU⟩ : ∃ U, U = Y12.alloc (.cells #[.int .i64 0, .string ⟨#[]⟩, .slice none 0 0, .slice none 0 0, .int .u32 0, .int .u32 0] 30) := ⟨_, rfl⟩
              rw [← hU]
              have b : Below Y12.heap.size Y12 Y15 := by rw [hU]; exact (Below.refl _ _).alloc (Nat.le_refl _) _
              have z : Y15.heap[Y12.heap.size]? = some (.cells #[.int .i64 0, .string ⟨#[]⟩, .slice none 0 0, .slice none 0 0, .int .u32 0, .int .u32 0] 30 (0, 0)) := by rw [hU]; exact Go.heap_alloc_new Y12 _
              have HY15 : Hid (Below we.heap.size we Y15) := Lib.hid (HY12.out.trans (b.mono HY12.out.size))
              have HNE : Hid (Y1.heap.size ≠ Y12.heap.size) := Lib.hid (Nat.ne_of_lt (lt_of_some HZ5.out.1))
              replace HZ5 := Lib.hid (And.intro ((b.block _ (lt_of_some HZ5.out.1)).trans HZ5.out.1) HZ5.out.2)
              have HZ4 : Hid (Y15.heap[Y12.heap.size]? = some (.cells #[.int .i64 0, .string ⟨#[]⟩, .slice none 0 0, .slice none 0 0, .int .u32 0, .int .u32 0] 30 (0, 0)) ∧ we.heap.size ≤ Y12.heap.size) := Lib.hid ⟨z, HY12.out.size⟩
              replace HL1 : Hid (LentNd w.heap.size Y15 M1 ∧ M1.Same A) := Lib.hid ⟨HL1.out.1.below b, HL1.out.2⟩
              clear hU b z
              refine hK.out _ _ (HSP.out _ HY15.out) (fun hHeld => ?_)
              clear hK K'
              refine wpAnyH_ready (rs := [3]) (by kernel_rfl) (by simp) ?_
              refine AllReadyH.cons rfl (fun K' hK => ?_) AllReadyH.nil
              go_simp
              go_at_call 14
              refine (HND.out _ B (KST.out _ (HBe.out.trans (HY15.out.mono HBe.out.size))).2.1.nd HBD.out.2).mono ?_
              rintro e Y16 ⟨M2, rfl, hs, hl, b⟩
              have HY16 : Hid (Below we.heap.size we Y16) := Lib.hid (HY15.out.trans (b.mono HY15.out.size))
              have HL2 : Hid (LentNd w.heap.size Y16 M2 ∧ M2.Same B) := Lib.hid ⟨hl.mono (Nat.le_trans HWE.out HY15.out.size), hs⟩
              replace HL1 : Hid (LentNd w.heap.size Y16 M1 ∧ M1.Same A) := Lib.hid ⟨HL1.out.1.below b, HL1.out.2⟩
              replace HZ5 := Lib.hid (And.intro ((b.block _ (lt_of_some HZ5.out.1)).trans HZ5.out.1) HZ5.out.2)
              replace HZ4 := Lib.hid (And.intro ((b.block _ (lt_of_some HZ4.out.1)).trans HZ4.out.1) HZ4.out.2)
              clear hs hl b
              refine hK.out _ _ (HSP.out _ HY16.out) (fun hHeld => ?_)
              clear hK K'
              have hne : Y12.heap.size ≠ Y1.heap.size := by first | exact HNE.out | exact Ne.symm HNE.out
              obtain ⟨U3, hU3, hb3, hf3, U4, hU4, hb4, hx1, hx2⟩ := two_fill (we := we) (U := Y16) (g1 := Y12.heap.size) (g2 := Y1.heap.size) M1 M2 HY16.out HZ4.out.2 HZ5.out.2 hne HZ4.out.1 HZ5.out.1
              have k1 := ln_fill HL1.out.1 hne HZ4.out.1 HZ5.out.1 hU3 hU4
              have k2 := ln_fill HL2.out.1 hne HZ4.out.1 HZ5.out.1 hU3 hU4
              have hf2 : ∀ j, Y16.frozen? ⟨Y12.heap.size, j, none⟩ = false := fun j => free_blk HZ4.out.1 j
              obtain ⟨q0, q1, q2, q3, q4, q5, lq⟩ := box_cells (N := Nd.zero) HZ4.out.1
              have HF := Lib.hid (And.intro hb3 (And.intro hb4 (And.intro hx1 (And.intro hx2 (And.intro hU3 (And.intro hU4 (And.intro k1 k2)))))))
              clear hb3 hb4 hx1 hx2 hU3 hU4 hne k1 k2
              refine wpAnyH_ready (rs := [6]) (by kernel_rfl) (by simp) ?_
              refine AllReadyH.cons rfl (fun K' hK => ?_) AllReadyH.nil
              go_simp
              rw [HF.out.2.2.2.2.1]
              clear hf2 q0 q1 q2 q3 q4 q5 lq
              obtain ⟨q0, q1, q2, q3, q4, q5, lq⟩ := box_cells (N := Nd.zero) hf3
              have hf4 := fun j => free_blk hf3 j
              clear hf3
              refine hK.out _ _ (HSP.out _ HF.out.1) (fun hHeld => ?_)
              clear hK K'
              refine wpAnyH_ready (rs := [7]) (by kernel_rfl) (by simp) ?_
              refine AllReadyH.cons rfl (fun K' hK => ?_) AllReadyH.nil
              go_simp
              rw [HF.out.2.2.2.2.2.1]
              clear hf4 q0 q1 q2 q3 q4 q5 lq
              refine hK.out _ _ (HSP.out _ HF.out.2.1) (fun hHeld => ?_)
              clear hK K'
              refine wpAnyH_done (by kernel_rfl) ?_ _
              clear hHeld
              go_wp2_with fail
              go_meet
              exact ⟨Y12.heap.size, Y1.heap.size, M1, M2, rfl, rfl, ⟨HF.out.2.2.1, HF.out.2.2.2.2.2.2.1, HL1.out.2⟩, ⟨HF.out.2.2.2.1, HF.out.2.2.2.2.2.2.2, HL2.out.2⟩, HF.out.2.1⟩
        · go_simp
          obtain ⟨Y17, hU⟩ : ∃ U, U = (we.alloc (.cells #[.int .i64 0, .string ⟨#[]⟩, .slice none 0 0, .slice none 0 0, .int .u32 0, .int .u32 0] 30)).drew := ⟨_, rfl⟩
          rw [← hU]
          have b : Below we.heap.size we Y17 := by rw [hU]; exact ((Below.refl _ _).alloc (Nat.le_refl _) _).drew
          have z : Y17.heap[we.heap.size]? = some (.cells #[.int .i64 0, .string ⟨#[]⟩, .slice none 0 0, .slice none 0 0, .int .u32 0, .int .u32 0] 30 (0, 0)) := by rw [hU]; exact Go.heap_alloc_new we _
          have HY17 : Hid (Below we.heap.size we Y17) := Lib.hid (b)
          have HZ4 : Hid (Y17.heap[we.heap.size]? = some (.cells #[.int .i64 0, .string ⟨#[]⟩, .slice none 0 0, .slice none 0 0, .int .u32 0, .int .u32 0] 30 (0, 0)) ∧ we.heap.size ≤ we.heap.size) := Lib.hid ⟨z, Nat.le_refl _⟩
          clear hU b z
          refine hK.out _ _ (HSP.out _ HY17.out) (fun hHeld => ?_)
          clear hK K'
          refine wpAnyH_ready (rs := [1, 5]) (by kernel_rfl) (by simp) ?_
          refine AllReadyH.cons rfl (fun K' hK => ?_) (AllReadyH.cons rfl (fun K' hK => ?_) AllReadyH.nil)
          · go_simp
            go_at_call 14
            refine (HND.out _ A (KST.out _ (HBe.out.trans (HY17.out.mono HBe.out.size))).1.nd HBD.out.1).mono ?_
            rintro e Y18 ⟨M1, rfl, hs, hl, b⟩
            have HY18 : Hid (Below we.heap.size we Y18) := Lib.hid (HY17.out.trans (b.mono HY17.out.size))
            have HL1 : Hid (LentNd w.heap.size Y18 M1 ∧ M1.Same A) := Lib.hid ⟨hl.mono (Nat.le_trans HWE.out HY17.out.size), hs⟩
            replace HZ4 := Lib.hid (And.intro ((b.block _ (lt_of_some HZ4.out.1)).trans HZ4.out.1) HZ4.out.2)
            clear hs hl b
            refine hK.out _ _ (HSP.out _ HY18.out) (fun hHeld => ?_)
            clear hK K'
            refine wpAnyH_ready (rs := [3, 5]) (by kernel_rfl) (by simp) ?_
            refine AllReadyH.cons rfl (fun K' hK => ?_) (AllReadyH.cons rfl (fun K' hK => ?_) AllReadyH.nil)
            · go_simp
              go_at_call 14
              refine (HND.out _ B (KST.out _ (HBe.out.trans (HY18.out.mono HBe.out.size))).2.1.nd HBD.out.2).mono ?_
              rintro e Y19 ⟨M2, rfl, hs, hl, b⟩
              have HY19 : Hid (Below we.heap.size we Y19) := Lib.hid (HY18.out.trans (b.mono HY18.out.size))
              have HL2 : Hid (LentNd w.heap.size Y19 M2 ∧ M2.Same B) := Lib.hid ⟨hl.mono (Nat.le_trans HWE.out HY18.out.size), hs⟩
              replace HL1 : Hid (LentNd w.heap.size Y19 M1 ∧ M1.Same A) := Lib.hid ⟨HL1.out.1.below b, HL1.out.2⟩
              replace HZ4 := Lib.hid (And.intro ((b.block _ (lt_of_some HZ4.out.1)).trans HZ4.out.1) HZ4.out.2)
              clear hs hl b
              refine hK.out _ _ (HSP.out _ HY19.out) (fun hHeld => ?_)
              clear hK K'
              refine wpAnyH_ready (rs := [5]) (by kernel_rfl) (by simp) ?_
              refine AllReadyH.cons rfl (fun K' hK => ?_) AllReadyH.nil
              go_simp
              obtain ⟨Y20, hU⟩ : ∃ U, U = Y19.alloc (.cells #[.int .i64 0, .string ⟨#[]⟩, .slice none 0 0, .slice none 0 0, .int .u32 0, .int .u32 0] 30) := ⟨_, rfl⟩
              rw [← hU]
              have b : Below Y19.heap.size Y19 Y20 := by rw [hU]; exact (Below.refl _ _).alloc (Nat.le_refl _) _
              have z : Y20.heap[Y19.heap.size]? = some (.cells #[.int .i64 0, .string ⟨#[]⟩, .slice none 0 0, .slice none 0 0, .int .u32 0, .int .u32 0] 30 (0, 0)) := by rw [hU]; exact Go.heap_alloc_new Y19 _
              have HY20 : Hid (Below we.heap.size we Y20) := Lib.hid (HY19.out.trans (b.mono HY19.out.size))
              have HNE : Hid (we.heap.size ≠ Y19.heap.size) := Lib.hid (Nat.ne_of_lt (lt_of_some HZ4.out.1))
              replace HZ4 := Lib.hid (And.intro ((b.block _ (lt_of_some HZ4.out.1)).trans HZ4.out.1) HZ4.out.2)
              have HZ5 : Hid (Y20.heap[Y19.heap.size]? = some (.cells #[.int .i64 0, .string ⟨#[]⟩, .slice none 0 0, .slice none 0 0, .int .u32 0, .int .u32 0] 30 (0, 0)) ∧ we.heap.size ≤ Y19.heap.size) := Lib.hid ⟨z, HY19.out.size⟩
              replace HL1 : Hid (LentNd w.heap.size Y20 M1 ∧ M1.Same A) := Lib.hid ⟨HL1.out.1.below b, HL1.out.2⟩
              replace HL2 : Hid (LentNd w.heap.size Y20 M2 ∧ M2.Same B) := Lib.hid ⟨HL2.out.1.below b, HL2.out.2⟩
              clear hU b z
              refine hK.out _ _ (HSP.out _ HY20.out) (fun hHeld => ?_)
              clear hK K'
              have hne : we.heap.size ≠ Y19.heap.size := by first | exact HNE.out | exact Ne.symm HNE.out
              obtain ⟨U3, hU3, hb3, hf3, U4, hU4, hb4, hx1, hx2⟩ := two_fill (we := we) (U := Y20) (g1 := we.heap.size) (g2 := Y19.heap.size) M1 M2 HY20.out HZ4.out.2 HZ5.out.2 hne HZ4.out.1 HZ5.out.1
              have k1 := ln_fill HL1.out.1 hne HZ4.out.1 HZ5.out.1 hU3 hU4
              have k2 := ln_fill HL2.out.1 hne HZ4.out.1 HZ5.out.1 hU3 hU4
              have hf2 : ∀ j, Y20.frozen? ⟨we.heap.size, j, none⟩ = false := fun j => free_blk HZ4.out.1 j
              obtain ⟨q0, q1, q2, q3, q4, q5, lq⟩ := box_cells (N := Nd.zero) HZ4.out.1
              have HF := Lib.hid (And.intro hb3 (And.intro hb4 (And.intro hx1 (And.intro hx2 (And.intro hU3 (And.intro hU4 (And.intro k1 k2)))))))
              clear hb3 hb4 hx1 hx2 hU3 hU4 hne k1 k2
              refine wpAnyH_ready (rs := [6]) (by kernel_rfl) (by simp) ?_
              refine AllReadyH.cons rfl (fun K' hK => ?_) AllReadyH.nil
              go_simp
              rw [HF.out.2.2.2.2.1]
              clear hf2 q0 q1 q2 q3 q4 q5 lq
              obtain ⟨q0, q1, q2, q3, q4, q5, lq⟩ := box_cells (N := Nd.zero) hf3
              have hf4 := fun j => free_blk hf3 j
              clear hf3
              refine hK.out _ _ (HSP.out _ HF.out.1) (fun hHeld => ?_)
              clear hK K'
              refine wpAnyH_ready (rs := [7]) (by kernel_rfl) (by simp) ?_
              refine AllReadyH.cons rfl (fun K' hK => ?_) AllReadyH.nil
              go_simp
              rw [HF.out.2.2.2.2.2.1]
              clear hf4 q0 q1 q2 q3 q4 q5 lq
              refine hK.out _ _ (HSP.out _ HF.out.2.1) (fun hHeld => ?_)
              clear hK K'
              refine wpAnyH_done (by kernel_rfl) ?_ _
              clear hHeld
              go_wp2_with fail
              go_meet
              exact ⟨we.heap.size, Y19.heap.size, M1, M2, rfl, rfl, ⟨HF.out.2.2.1, HF.out.2.2.2.2.2.2.1, HL1.out.2⟩, ⟨HF.out.2.2.2.1, HF.out.2.2.2.2.2.2.2, HL2.out.2⟩, HF.out.2.1⟩
            · go_simp
              obtain ⟨Y21, hU⟩ : ∃ U, U = Y18.alloc (.cells #[.int .i64 0, .string ⟨#[]⟩, .slice none 0 0, .slice none 0 0, .int .u32 0, .int .u32 0] 30) := ⟨_, rfl⟩
              rw [← hU]
              have b : Below Y18.heap.size Y18 Y21 := by rw [hU]; exact (Below.refl _ _).alloc (Nat.le_refl _) _
              have z : Y21.heap[Y18.heap.size]? = some (.cells #[.int .i64 0, .string ⟨#[]⟩, .slice none 0 0, .slice none 0 0, .int .u32 0, .int .u32 0] 30 (0, 0)) := by rw [hU]; exact Go.heap_alloc_new Y18 _
              have HY21 : Hid (Below we.heap.size we Y21) := Lib.hid (HY18.out.trans (b.mono HY18.out.size))
              have HNE : Hid (we.heap.size ≠ Y18.heap.size) := Lib.hid (Nat.ne_of_lt (lt_of_some HZ4.out.1))
              replace HZ4 := Lib.hid (And.intro ((b.block _ (lt_of_some HZ4.out.1)).trans HZ4.out.1) HZ4.out.2)
              have HZ5 : Hid (Y21.heap[Y18.heap.size]? = some (.cells #[.int .i64 0, .string ⟨#[]⟩, .slice none 0 0, .slice none 0 0, .int .u32 0, .int .u32 0] 30 (0, 0)) ∧ we.heap.size ≤ Y18.heap.size) := Lib.hid ⟨z, HY18.out.size⟩
              replace HL1 : Hid (LentNd w.heap.size Y21 M1 ∧ M1.Same A) := Lib.hid ⟨HL1.out.1.below b, HL1.out.2⟩
              clear hU b z
              refine hK.out _ _ (HSP.out _ HY21.out) (fun hHeld => ?_)
              clear hK K'
              refine wpAnyH_ready (rs := [3]) (by kernel_rfl) (by simp) ?_
              refine AllReadyH.cons rfl (fun K' hK => ?_) AllReadyH.nil
              go_simp
              go_at_call 14
              refine (HND.out _ B (KST.out _ (HBe.out.trans (HY21.out.mono HBe.out.size))).2.1.nd HBD.out.2).mono ?_
              rintro e Y22 ⟨M2, rfl, hs, hl, b⟩
              have HY22 : Hid (Below we.heap.size we Y22) := Lib.hid (HY21.out.trans (b.mono HY21.out.size))
              have HL2 : Hid (LentNd w.heap.size Y22 M2 ∧ M2.Same B) := Lib.hid ⟨hl.mono (Nat.le_trans HWE.out HY21.out.size), hs⟩
              replace HL1 : Hid (LentNd w.heap.size Y22 M1 ∧ M1.Same A) := Lib.hid ⟨HL1.out.1.below b, HL1.out.2⟩
              replace HZ4 := Lib.hid (And.intro ((b.block _ (lt_of_some HZ4.out.1)).trans HZ4.out.1) HZ4.out.2)
              replace HZ5 := Lib.hid (And.intro ((b.block _ (lt_of_some HZ5.out.1)).trans HZ5.out.1) HZ5.out.2)
              clear hs hl b
              refine hK.out _ _ (HSP.out _ HY22.out) (fun hHeld => ?_)
              clear hK K'
              have hne : we.heap.size ≠ Y18.heap.size := by first | exact HNE.out | exact Ne.symm HNE.out
              obtain ⟨U3, hU3, hb3, hf3, U4, hU4, hb4, hx1, hx2⟩ := two_fill (we := we) (U := Y22) (g1 := we.heap.size) (g2 := Y18.heap.size) M1 M2 HY22.out HZ4.out.2 HZ5.out.2 hne HZ4.out.1 HZ5.out.1
              have k1 := ln_fill HL1.out.1 hne HZ4.out.1 HZ5.out.1 hU3 hU4
              have k2 := ln_fill HL2.out.1 hne HZ4.out.1 HZ5.out.1 hU3 hU4
              have hf2 : ∀ j, Y22.frozen? ⟨we.heap.size, j, none⟩ = false := fun j => free_blk HZ4.out.1 j
              obtain ⟨q0, q1, q2, q3, q4, q5, lq⟩ := box_cells (N := Nd.zero) HZ4.out.1
              have HF := Lib.hid (And.intro hb3 (And.intro hb4 (And.intro hx1 (And.intro hx2 (And.intro hU3 (And.intro hU4 (And.intro k1 k2)))))))
              clear hb3 hb4 hx1 hx2 hU3 hU4 hne k1 k2
              refine wpAnyH_ready (rs := [6]) (by kernel_rfl) (by simp) ?_
              refine AllReadyH.cons rfl (fun K' hK => ?_) AllReadyH.nil
              go_simp
              rw [HF.out.2.2.2.2.1]
              clear hf2 q0 q1 q2 q3 q4 q5 lq
              obtain ⟨q0, q1, q2, q3, q4, q5, lq⟩ := box_cells (N := Nd.zero) hf3
              have hf4 := fun j => free_blk hf3 j
              clear hf3
              refine hK.out _ _ (HSP.out _ HF.out.1) (fun hHeld => ?_)
              clear hK K'
              refine wpAnyH_ready (rs := [7]) (by kernel_rfl) (by simp) ?_
              refine AllReadyH.cons rfl (fun K' hK => ?_) AllReadyH.nil
              go_simp
              rw [HF.out.2.2.2.2.2.1]
              clear hf4 q0 q1 q2 q3 q4 q5 lq
              refine hK.out _ _ (HSP.out _ HF.out.2.1) (fun hHeld => ?_)
              clear hK K'
              refine wpAnyH_done (by kernel_rfl) ?_ _
              clear hHeld
              go_wp2_with fail
              go_meet
              exact ⟨we.heap.size, Y18.heap.size, M1, M2, rfl, rfl, ⟨HF.out.2.2.1, HF.out.2.2.2.2.2.2.1, HL1.out.2⟩, ⟨HF.out.2.2.2.1, HF.out.2.2.2.2.2.2.2, HL2.out.2⟩, HF.out.2.1⟩
          · go_simp
            obtain ⟨Y23, hU⟩ : ∃ U, U = Y17.alloc (.cells #[.int .i64 0, .string ⟨#[]⟩, .slice none 0 0, .slice none 0 0, .int .u32 0, .int .u32 0] 30) := ⟨_, rfl⟩
            rw [← hU]
            have b : Below Y17.heap.size Y17 Y23 := by rw [hU]; exact (Below.refl _ _).alloc (Nat.le_refl _) _
            have z : Y23.heap[Y17.heap.size]? = some (.cells #[.int .i64 0, .string ⟨#[]⟩, .slice none 0 0, .slice none 0 0, .int .u32 0, .int .u32 0] 30 (0, 0)) := by rw [hU]; exact Go.heap_alloc_new Y17 _
            have HY23 : Hid (Below we.heap.size we Y23) := Lib.hid (HY17.out.trans (b.mono HY17.out.size))
            have HNE : Hid (we.heap.size ≠ Y17.heap.size) := Lib.hid (Nat.ne_of_lt (lt_of_some HZ4.out.1))
            replace HZ4 := Lib.hid (And.intro ((b.block _ (lt_of_some HZ4.out.1)).trans HZ4.out.1) HZ4.out.2)
            have HZ5 : Hid (Y23.heap[Y17.heap.size]? = some (.cells #[.int .i64 0, .string ⟨#[]⟩, .slice none 0 0, .slice none 0 0, .int .u32 0, .int .u32 0] 30 (0, 0)) ∧ we.heap.size ≤ Y17.heap.size) := Lib.hid ⟨z, HY17.out.size⟩
            clear hU b z
            refine hK.out _ _ (HSP.out _ HY23.out) (fun hHeld => ?_)
            clear hK K'
            refine wpAnyH_ready (rs := [1]) (by kernel_rfl) (by simp) ?_
            refine AllReadyH.cons rfl (fun K' hK => ?_) AllReadyH.nil
            go_simp
            go_at_call 14
            refine (HND.out _ A (KST.out _ (HBe.out.trans (HY23.out.mono HBe.out.size))).1.nd HBD.out.1).mono ?_
            rintro e Y24 ⟨M1, rfl, hs, hl, b⟩
            have HY24 : Hid (Below we.heap.size we Y24) := Lib.hid (HY23.out.trans (b.mono HY23.out.size))
            have HL1 : Hid (LentNd w.heap.size Y24 M1 ∧ M1.Same A) := Lib.hid ⟨hl.mono (Nat.le_trans HWE.out HY23.out.size), hs⟩
            replace HZ4 := Lib.hid (And.intro ((b.block _ (lt_of_some HZ4.out.1)).trans HZ4.out.1) HZ4.out.2)
            replace HZ5 := Lib.hid (And.intro ((b.block _ (lt_of_some HZ5.out.1)).trans HZ5.out.1) HZ5.out.2)
            clear hs hl b
            refine hK.out _ _ (HSP.out _ HY24.out) (fun hHeld => ?_)
            clear hK K'
            refine wpAnyH_ready (rs := [3]) (by kernel_rfl) (by simp) ?_
            refine AllReadyH.cons rfl (fun K' hK => ?_) AllReadyH.nil
            go_simp
            go_at_call 14
            refine (HND.out _ B (KST.out _ (HBe.out.trans (HY24.out.mono HBe.out.size))).2.1.nd HBD.out.2).mono ?_
            rintro e Y25 ⟨M2, rfl, hs, hl, b⟩
            have HY25 : Hid (Below we.heap.size we Y25) := Lib.hid (HY24.out.trans (b.mono HY24.out.size))
            have HL2 : Hid (LentNd w.heap.size Y25 M2 ∧ M2.Same B) := Lib.hid ⟨hl.mono (Nat.le_trans HWE.out HY24.out.size), hs⟩
            replace HL1 : Hid (LentNd w.heap.size Y25 M1 ∧ M1.Same A) := Lib.hid ⟨HL1.out.1.below b, HL1.out.2⟩
            replace HZ4 := Lib.hid (And.intro ((b.block _ (lt_of_some HZ4.out.1)).trans HZ4.out.1) HZ4.out.2)
            replace HZ5 := Lib.hid (And.intro ((b.block _ (lt_of_some HZ5.out.1)).trans HZ5.out.1) HZ5.out.2)
            clear hs hl b
            refine hK.out _ _ (HSP.out _ HY25.out) (fun hHeld => ?_)
            clear hK K'
            have hne : we.heap.size ≠ Y17.heap.size := by first | exact HNE.out | exact Ne.symm HNE.out
            obtain ⟨U3, hU3, hb3, hf3, U4, hU4, hb4, hx1, hx2⟩ := two_fill (we := we) (U := Y25) (g1 := we.heap.size) (g2 := Y17.heap.size) M1 M2 HY25.out HZ4.out.2 HZ5.out.2 hne HZ4.out.1 HZ5.out.1
            have k1 := ln_fill HL1.out.1 hne HZ4.out.1 HZ5.out.1 hU3 hU4
            have k2 := ln_fill HL2.out.1 hne HZ4.out.1 HZ5.out.1 hU3 hU4
            have hf2 : ∀ j, Y25.frozen? ⟨we.heap.size, j, none⟩ = false := fun j => free_blk HZ4.out.1 j
            obtain ⟨q0, q1, q2, q3, q4, q5, lq⟩ := box_cells (N := Nd.zero) HZ4.out.1
            have HF := Lib.hid (And.intro hb3 (And.intro hb4 (And.intro hx1 (And.intro hx2 (And.intro hU3 (And.intro hU4 (And.intro k1 k2)))))))
            clear hb3 hb4 hx1 hx2 hU3 hU4 hne k1 k2
            refine wpAnyH_ready (rs := [6]) (by kernel_rfl) (by simp) ?_
            refine AllReadyH.cons rfl (fun K' hK => ?_) AllReadyH.nil
            go_simp
            rw [HF.out.2.2.2.2.1]
            clear hf2 q0 q1 q2 q3 q4 q5 lq
            obtain ⟨q0, q1, q2, q3, q4, q5, lq⟩ := box_cells (N := Nd.zero) hf3
            have hf4 := fun j => free_blk hf3 j
            clear hf3
            refine hK.out _ _ (HSP.out _ HF.out.1) (fun hHeld => ?_)
            clear hK K'
            refine wpAnyH_ready (rs := [7]) (by kernel_rfl) (by simp) ?_
            refine AllReadyH.cons rfl (fun K' hK => ?_) AllReadyH.nil
            go_simp
            rw [HF.out.2.2.2.2.2.1]
            clear hf4 q0 q1 q2 q3 q4 q5 lq
            refine hK.out _ _ (HSP.out _ HF.out.2.1) (fun hHeld => ?_)
            clear hK K'
            refine wpAnyH_done (by kernel_rfl) ?_ _
            clear hHeld
            go_wp2_with fail
            go_meet
            exact ⟨we.heap.size, Y17.heap.size, M1, M2, rfl, rfl, ⟨HF.out.2.2.1, HF.out.2.2.2.2.2.2.1, HL1.out.2⟩, ⟨HF.out.2.2.2.1, HF.out.2.2.2.2.2.2.2, HL2.out.2⟩, HF.out.2.1⟩
        · go_simp
          obtain ⟨Y26, hU⟩ : ∃ U, U = (we.alloc (.cells #[.int .i64 0, .string ⟨#[]⟩, .slice none 0 0, .slice none 0 0, .int .u32 0, .int .u32 0] 30)).drew := ⟨_, rfl⟩
          rw [← hU]
          have b : Below we.heap.size we Y26 := by rw [hU]; exact ((Below.refl _ _).alloc (Nat.le_refl _) _).drew
          have z : Y26.heap[we.heap.size]? = some (.cells #[.int .i64 0, .string ⟨#[]⟩, .slice none 0 0, .slice none 0 0, .int .u32 0, .int .u32 0] 30 (0, 0)) := by rw [hU]; exact Go.heap_alloc_new we _
          have HY26 : Hid (Below we.heap.size we Y26) := Lib.hid (b)
          have HZ5 : Hid (Y26.heap[we.heap.size]? = some (.cells #[.int .i64 0, .string ⟨#[]⟩, .slice none 0 0, .slice none 0 0, .int .u32 0, .int .u32 0] 30 (0, 0)) ∧ we.heap.size ≤ we.heap.size) := Lib.hid ⟨z, Nat.le_refl _⟩
          clear hU b z
          refine hK.out _ _ (HSP.out _ HY26.out) (fun hHeld => ?_)
          clear hK K'
          refine wpAnyH_ready (rs := [1, 4]) (by kernel_rfl) (by simp) ?_
          refine AllReadyH.cons rfl (fun K' hK => ?_) (AllReadyH.cons rfl (fun K' hK => ?_) AllReadyH.nil)
          · go_simp
            go_at_call 14
            refine (HND.out _ A (KST.out _ (HBe.out.trans (HY26.out.mono HBe.out.size))).1.nd HBD.out.1).mono ?_
            rintro e Y27 ⟨M1, rfl, hs, hl, b⟩
            have HY27 : Hid (Below we.heap.size we Y27) := Lib.hid (HY26.out.trans (b.mono HY26.out.size))
            have HL1 : Hid (LentNd w.heap.size Y27 M1 ∧ M1.Same A) := Lib.hid ⟨hl.mono (Nat.le_trans HWE.out HY26.out.size), hs⟩
            replace HZ5 := Lib.hid (And.intro ((b.block _ (lt_of_some HZ5.out.1)).trans HZ5.out.1) HZ5.out.2)
            clear hs hl b
            refine hK.out _ _ (HSP.out _ HY27.out) (fun hHeld => ?_)
            clear hK K'
            refine wpAnyH_ready (rs := [3, 4]) (by kernel_rfl) (by simp) ?_
            refine AllReadyH.cons rfl (fun K' hK => ?_) (AllReadyH.cons rfl (fun K' hK => ?_) AllReadyH.nil)
            · go_simp
              go_at_call 14
              refine (HND.out _ B (KST.out _ (HBe.out.trans (HY27.out.mono HBe.out.size))).2.1.nd HBD.out.2).mono ?_
              rintro e Y28 ⟨M2, rfl, hs, hl, b⟩
              have HY28 : Hid (Below we.heap.size we Y28) := Lib.hid (HY27.out.trans (b.mono HY27.out.size))
              have HL2 : Hid (LentNd w.heap.size Y28 M2 ∧ M2.Same B) := Lib.hid ⟨hl.mono (Nat.le_trans HWE.out HY27.out.size), hs⟩
              replace HL1 : Hid (LentNd w.heap.size Y28 M1 ∧ M1.Same A) := Lib.hid ⟨HL1.out.1.below b, HL1.out.2⟩
              replace HZ5 := Lib.hid (And.intro ((b.block _ (lt_of_some HZ5.out.1)).trans HZ5.out.1) HZ5.out.2)
              clear hs hl b
              refine hK.out _ _ (HSP.out _ HY28.out) (fun hHeld => ?_)
              clear hK K'
              refine wpAnyH_ready (rs := [4]) (by kernel_rfl) (by simp) ?_
              refine AllReadyH.cons rfl (fun K' hK => ?_) AllReadyH.nil
              go_simp
              obtain ⟨Y29, hU⟩ : ∃ U, U = Y28.alloc (.cells #[.int .i64 0, .string ⟨#[]⟩, .slice none 0 0, .slice none 0 0, .int .u32 0, .int .u32 0] 30) := ⟨_, rfl⟩
              rw [← hU]
              have b : Below Y28.heap.size Y28 Y29 := by rw [hU]; exact (Below.refl _ _).alloc (Nat.le_refl _) _
              have z : Y29.heap[Y28.heap.size]? = some (.cells #[.int .i64 0, .string ⟨#[]⟩, .slice none 0 0, .slice none 0 0, .int .u32 0, .int .u32 0] 30 (0, 0)) := by rw [hU]; exact Go.heap_alloc_new Y28 _
              have HY29 : Hid (Below we.heap.size we Y29) := Lib.hid (HY28.out.trans (b.mono HY28.out.size))
              have HNE : Hid (we.heap.size ≠ Y28.heap.size) := Lib.hid (Nat.ne_of_lt (lt_of_some HZ5.out.1))
              replace HZ5 := Lib.hid (And.intro ((b.block _ (lt_of_some HZ5.out.1)).trans HZ5.out.1) HZ5.out.2)
              have HZ4 : Hid (Y29.heap[Y28.heap.size]? = some (.cells #[.int .i64 0, .string ⟨#[]⟩, .slice none 0 0, .slice none 0 0, .int .u32 0, .int .u32 0] 30 (0, 0)) ∧ we.heap.size ≤ Y28.heap.size) := Lib.hid ⟨z, HY28.out.size⟩
              replace HL1 : Hid (LentNd w.heap.size Y29 M1 ∧ M1.Same A) := Lib.hid ⟨HL1.out.1.below b, HL1.out.2⟩
              replace HL2 : Hid (LentNd w.heap.size Y29 M2 ∧ M2.Same B) := Lib.hid ⟨HL2.out.1.below b, HL2.out.2⟩
              clear hU b z
              refine hK.out _ _ (HSP.out _ HY29.out) (fun hHeld => ?_)
              clear hK K'
              have hne : Y28.heap.size ≠ we.heap.size := by first | exact HNE.out | exact Ne.symm HNE.out
              obtain ⟨U3, hU3, hb3, hf3, U4, hU4, hb4, hx1, hx2⟩ := two_fill (we := we) (U := Y29) (g1 := Y28.heap.size) (g2 := we.heap.size) M1 M2 HY29.out HZ4.out.2 HZ5.out.2 hne HZ4.out.1 HZ5.out.1
              have k1 := ln_fill HL1.out.1 hne HZ4.out.1 HZ5.out.1 hU3 hU4
              have k2 := ln_fill HL2.out.1 hne HZ4.out.1 HZ5.out.1 hU3 hU4
              have hf2 : ∀ j, Y29.frozen? ⟨Y28.heap.size, j, none⟩ = false := fun j => free_blk HZ4.out.1 j
              obtain ⟨q0, q1, q2, q3, q4, q5, lq⟩ := box_cells (N := Nd.zero) HZ4.out.1
              have HF := Lib.hid (And.intro hb3 (And.intro hb4 (And.intro hx1 (And.intro hx2 (And.intro hU3 (And.intro hU4 (And.intro k1 k2)))))))
              clear hb3 hb4 hx1 hx2 hU3 hU4 hne k1 k2
              refine wpAnyH_ready (rs := [6]) (by kernel_rfl) (by simp) ?_
              refine AllReadyH.cons rfl (fun K' hK => ?_) AllReadyH.nil
              go_simp
              rw [HF.out.2.2.2.2.1]
              clear hf2 q0 q1 q2 q3 q4 q5 lq
              obtain ⟨q0, q1, q2, q3, q4, q5, lq⟩ := box_cells (N := Nd.zero) hf3
              have hf4 := fun j => free_blk hf3 j
              clear hf3
              refine hK.out _ _ (HSP.out _ HF.out.1) (fun hHeld => ?_)
              clear hK K'
              refine wpAnyH_ready (rs := [7]) (by kernel_rfl) (by simp) ?_
              refine AllReadyH.cons rfl (fun K' hK => ?_) AllReadyH.nil
              go_simp
              rw [HF.out.2.2.2.2.2.1]
              clear hf4 q0 q1 q2 q3 q4 q5 lq
              refine hK.out _ _ (HSP.out _ HF.out.2.1) (fun hHeld => ?_)
              clear hK K'
              refine wpAnyH_done (by kernel_rfl) ?_ _
              clear hHeld
              go_wp2_with fail
              go_meet
              exact ⟨Y28.heap.size, we.heap.size, M1, M2, rfl, rfl, ⟨HF.out.2.2.1, HF.out.2.2.2.2.2.2.1, HL1.out.2⟩, ⟨HF.out.2.2.2.1, HF.out.2.2.2.2.2.2.2, HL2.out.2⟩, HF.out.2.1⟩
            · go_simp
              obtain ⟨Y30, hU⟩ : ∃ U, U = Y27.alloc (.cells #[.int .i64 0, .string ⟨#[]⟩, .slice none 0 0, .slice none 0 0, .int .u32 0, .int .u32 0] 30) := ⟨_, rfl⟩
              rw [← hU]
              have b : Below Y27.heap.size Y27 Y30 := by rw [hU]; exact (Below.refl _ _).alloc (Nat.le_refl _) _
              have z : Y30.heap[Y27.heap.size]? = some (.cells #[.int .i64 0, .string ⟨#[]⟩, .slice none 0 0, .slice none 0 0, .int .u32 0, .int .u32 0] 30 (0, 0)) := by rw [hU]; exact Go.heap_alloc_new Y27 _
              have HY30 : Hid (Below we.heap.size we Y30) := Lib.hid (HY27.out.trans (b.mono HY27.out.size))
              have HNE : Hid (we.heap.size ≠ Y27.heap.size) := Lib.hid (Nat.ne_of_lt (lt_of_some HZ5.out.1))
              replace HZ5 := Lib.hid (And.intro ((b.block _ (lt_of_some HZ5.out.1)).trans HZ5.out.1) HZ5.out.2)
              have HZ4 : Hid (Y30.heap[Y27.heap.size]? = some (.cells #[.int .i64 0, .string ⟨#[]⟩, .slice none 0 0, .slice none 0 0, .int .u32 0, .int .u32 0] 30 (0, 0)) ∧ we.heap.size ≤ Y27.heap.size) := Lib.hid ⟨z, HY27.out.size⟩
              replace HL1 : Hid (LentNd w.heap.size Y30 M1 ∧ M1.Same A) := Lib.hid ⟨HL1.out.1.below b, HL1.out.2⟩
              clear hU b z
              refine hK.out _ _ (HSP.out _ HY30.out) (fun hHeld => ?_)
              clear hK K'
              refine wpAnyH_ready (rs := [3]) (by kernel_rfl) (by simp) ?_
              refine AllReadyH.cons rfl (fun K' hK => ?_) AllReadyH.nil
              go_simp
              go_at_call 14
              refine (HND.out _ B (KST.out _ (HBe.out.trans (HY30.out.mono HBe.out.size))).2.1.nd HBD.out.2).mono ?_
              rintro e Y31 ⟨M2, rfl, hs, hl, b⟩
              have HY31 : Hid (Below we.heap.size we Y31) := Lib.hid (HY30.out.trans (b.mono HY30.out.size))
              have HL2 : Hid (LentNd w.heap.size Y31 M2 ∧ M2.Same B) := Lib.hid ⟨hl.mono (Nat.le_trans HWE.out HY30.out.size), hs⟩
              replace HL1 : Hid (LentNd w.heap.size Y31 M1 ∧ M1.Same A) := Lib.hid ⟨HL1.out.1.below b, HL1.out.2⟩
              replace HZ5 := Lib.hid (And.intro ((b.block _ (lt_of_some HZ5.out.1)).trans HZ5.out.1) HZ5.out.2)
              replace HZ4 := Lib.hid (And.intro ((b.block _ (lt_of_some HZ4.out.1)).trans HZ4.out.1) HZ4.out.2)
              clear hs hl b
              refine hK.out _ _ (HSP.out _ HY31.out) (fun hHeld => ?_)
              clear hK K'
              have hne : Y27.heap.size ≠ we.heap.size := by first | exact HNE.out | exact Ne.symm HNE.out
              obtain ⟨U3, hU3, hb3, hf3, U4, hU4, hb4, hx1, hx2⟩ := two_fill (we := we) (U := Y31) (g1 := Y27.heap.size) (g2 := we.heap.size) M1 M2 HY31.out HZ4.out.2 HZ5.out.2 hne HZ4.out.1 HZ5.out.1
              have k1 := ln_fill HL1.out.1 hne HZ4.out.1 HZ5.out.1 hU3 hU4
              have k2 := ln_fill HL2.out.1 hne HZ4.out.1 HZ5.out.1 hU3 hU4
              have hf2 : ∀ j, Y31.frozen? ⟨Y27.heap.size, j, none⟩ = false := fun j => free_blk HZ4.out.1 j
              obtain ⟨q0, q1, q2, q3, q4, q5, lq⟩ := box_cells (N := Nd.zero) HZ4.out.1
              have HF := Lib.hid (And.intro hb3 (And.intro hb4 (And.intro hx1 (And.intro hx2 (And.intro hU3 (And.intro hU4 (And.intro k1 k2)))))))
              clear hb3 hb4 hx1 hx2 hU3 hU4 hne k1 k2
              refine wpAnyH_ready (rs := [6]) (by kernel_rfl) (by simp) ?_
              refine AllReadyH.cons rfl (fun K' hK => ?_) AllReadyH.nil
              go_simp
              rw [HF.out.2.2.2.2.1]
              clear hf2 q0 q1 q2 q3 q4 q5 lq
              obtain ⟨q0, q1, q2, q3, q4, q5, lq⟩ := box_cells (N := Nd.zero) hf3
              have hf4 := fun j => free_blk hf3 j
              clear hf3
              refine hK.out _ _ (HSP.out _ HF.out.1) (fun hHeld => ?_)
              clear hK K'
              refine wpAnyH_ready (rs := [7]) (by kernel_rfl) (by simp) ?_
              refine AllReadyH.cons rfl (fun K' hK => ?_) AllReadyH.nil
              go_simp
              rw [HF.out.2.2.2.2.2.1]
              clear hf4 q0 q1 q2 q3 q4 q5 lq
              refine hK.out _ _ (HSP.out _ HF.out.2.1) (fun hHeld => ?_)
              clear hK K'
              refine wpAnyH_done (by kernel_rfl) ?_ _
              clear hHeld
              go_wp2_with fail
              go_meet
              exact ⟨Y27.heap.size, we.heap.size, M1, M2, rfl, rfl, ⟨HF.out.2.2.1, HF.out.2.2.2.2.2.2.1, HL1.out.2⟩, ⟨HF.out.2.2.2.1, HF.out.2.2.2.2.2.2.2, HL2.out.2⟩, HF.out.2.1⟩
          · go_simp
            obtain ⟨Y32, hU⟩ : ∃ U, U = Y26.alloc (.cells #[.int .i64 0, .string ⟨#[]⟩, .slice none 0 0, .slice none 0 0, .int .u32 0, .int .u32 0] 30) := ⟨_, rfl⟩
            rw [← hU]
            have b : Below Y26.heap.size Y26 Y32 := by rw [hU]; exact (Below.refl _ _).alloc (Nat.le_refl _) _
            have z : Y32.heap[Y26.heap.size]? = some (.cells #[.int .i64 0, .string ⟨#[]⟩, .slice none 0 0, .slice none 0 0, .int .u32 0, .int .u32 0] 30 (0, 0)) := by rw [hU]; exact Go.heap_alloc_new Y26 _
            have HY32 : Hid (Below we.heap.size we Y32) := Lib.hid (HY26.out.trans (b.mono HY26.out.size))
            have HNE : Hid (we.heap.size ≠ Y26.heap.size) := Lib.hid (Nat.ne_of_lt (lt_of_some HZ5.out.1))
            replace HZ5 := Lib.hid (And.intro ((b.block _ (lt_of_some HZ5.out.1)).trans HZ5.out.1) HZ5.out.2)
            have HZ4 : Hid (Y32.heap[Y26.heap.size]? = some (.cells #[.int .i64 0, .string ⟨#[]⟩, .slice none 0 0, .slice none 0 0, .int .u32 0, .int .u32 0] 30 (0, 0)) ∧ we.heap.size ≤ Y26.heap.size) := Lib.hid ⟨z, HY26.out.size⟩
            clear hU b z
            refine hK.out _ _ (HSP.out _ HY32.out) (fun hHeld => ?_)
            clear hK K'
            refine wpAnyH_ready (rs := [1]) (by kernel_rfl) (by simp) ?_
            refine AllReadyH.cons rfl (fun K' hK => ?_) AllReadyH.nil
            go_simp
            go_at_call 14
            refine (HND.out _ A (KST.out _ (HBe.out.trans (HY32.out.mono HBe.out.size))).1.nd HBD.out.1).mono ?_
            rintro e Y33 ⟨M1, rfl, hs, hl, b⟩
            have HY33 : Hid (Below we.heap.size we Y33) := Lib.hid (HY32.out.trans (b.mono HY32.out.size))
            have HL1 : Hid (LentNd w.heap.size Y33 M1 ∧ M1.Same A) := Lib.hid ⟨hl.mono (Nat.le_trans HWE.out HY32.out.size), hs⟩
            replace HZ5 := Lib.hid (And.intro ((b.block _ (lt_of_some HZ5.out.1)).trans HZ5.out.1) HZ5.out.2)
            replace HZ4 := Lib.hid (And.intro ((b.block _ (lt_of_some HZ4.out.1)).trans HZ4.out.1) HZ4.out.2)
            clear hs hl b
            refine hK.out _ _ (HSP.out _ HY33.out) (fun hHeld => ?_)
            clear hK K'
            refine wpAnyH_ready (rs := [3]) (by kernel_rfl) (by simp) ?_
            refine AllReadyH.cons rfl (fun K' hK => ?_) AllReadyH.nil
            go_simp
            go_at_call 14
            refine (HND.out _ B (KST.out _ (HBe.out.trans (HY33.out.mono HBe.out.size))).2.1.nd HBD.out.2).mono ?_
            rintro e Y34 ⟨M2, rfl, hs, hl, b⟩
            have HY34 : Hid (Below we.heap.size we Y34) := Lib.hid (HY33.out.trans (b.mono HY33.out.size))
            have HL2 : Hid (LentNd w.heap.size Y34 M2 ∧ M2.Same B) := Lib.hid ⟨hl.mono (Nat.le_trans HWE.out HY33.out.size), hs⟩
            replace HL1 : Hid (LentNd w.heap.size Y34 M1 ∧ M1.Same A) := Lib.hid ⟨HL1.out.1.below b, HL1.out.2⟩
            replace HZ5 := Lib.hid (And.intro ((b.block _ (lt_of_some HZ5.out.1)).trans HZ5.out.1) HZ5.out.2)
            replace HZ4 := Lib.hid (And.intro ((b.block _ (lt_of_some HZ4.out.1)).trans HZ4.out.1) HZ4.out.2)
            clear hs hl b
            refine hK.out _ _ (HSP.out _ HY34.out) (fun hHeld => ?_)
            clear hK K'
            have hne : Y26.heap.size ≠ we.heap.size := by first | exact HNE.out | exact Ne.symm HNE.out
            obtain ⟨U3, hU3, hb3, hf3, U4, hU4, hb4, hx1, hx2⟩ := two_fill (we := we) (U := Y34) (g1 := Y26.heap.size) (g2 := we.heap.size) M1 M2 HY34.out HZ4.out.2 HZ5.out.2 hne HZ4.out.1 HZ5.out.1
            have k1 := ln_fill HL1.out.1 hne HZ4.out.1 HZ5.out.1 hU3 hU4
            have k2 := ln_fill HL2.out.1 hne HZ4.out.1 HZ5.out.1 hU3 hU4
            have hf2 : ∀ j, Y34.frozen? ⟨Y26.heap.size, j, none⟩ = false := fun j => free_blk HZ4.out.1 j
            obtain ⟨q0, q1, q2, q3, q4, q5, lq⟩ := box_cells (N := Nd.zero) HZ4.out.1
            have HF := Lib.hid (And.intro hb3 (And.intro hb4 (And.intro hx1 (And.intro hx2 (And.intro hU3 (And.intro hU4 (And.intro k1 k2)))))))
            clear hb3 hb4 hx1 hx2 hU3 hU4 hne k1 k2
            refine wpAnyH_ready (rs := [6]) (by kernel_rfl) (by simp) ?_
            refine AllReadyH.cons rfl (fun K' hK => ?_) AllReadyH.nil
            go_simp
            rw [HF.out.2.2.2.2.1]
            clear hf2 q0 q1 q2 q3 q4 q5 lq
            obtain ⟨q0, q1, q2, q3, q4, q5, lq⟩ := box_cells (N := Nd.zero) hf3
            have hf4 := fun j => free_blk hf3 j
            clear hf3
            refine hK.out _ _ (HSP.out _ HF.out.1) (fun hHeld => ?_)
            clear hK K'
            refine wpAnyH_ready (rs := [7]) (by kernel_rfl) (by simp) ?_
            refine AllReadyH.cons rfl (fun K' hK => ?_) AllReadyH.nil
            go_simp
            rw [HF.out.2.2.2.2.2.1]
            clear hf4 q0 q1 q2 q3 q4 q5 lq
            refine hK.out _ _ (HSP.out _ HF.out.2.1) (fun hHeld => ?_)
            clear hK K'
            refine wpAnyH_done (by kernel_rfl) ?_ _
            clear hHeld
            go_wp2_with fail
            go_meet
            exact ⟨Y26.heap.size, we.heap.size, M1, M2, rfl, rfl, ⟨HF.out.2.2.1, HF.out.2.2.2.2.2.2.1, HL1.out.2⟩, ⟨HF.out.2.2.2.1, HF.out.2.2.2.2.2.2.2, HL2.out.2⟩, HF.out.2.1⟩
      case rest =>
        obtain ⟨g1, g2, M1, M2, rfl, rfl, hx1, hx2, hbf⟩ := hcut
        obtain ⟨wf, hwf⟩ : ∃ wf, wf = wc := ⟨_, rfl⟩
        rw [← hwf] at hx1 hx2 hbf ⊢
        clear hwf
        have HBf := Lib.hid (HBe.out.trans (hbf.mono HBe.out.size))
        have KF : Hid (∀ W, Below wf.heap.size wf W → NdBx w.heap.size A W ∧ NdBx (w.heap.size + 1) B W ∧ LnBx w.heap.size g1 A M1 W ∧ LnBx w.heap.size g2 B M2 W) := Lib.hid (fun W b => by
          have h := KST.out W (HBf.out.trans (b.mono HBf.out.size))
          exact ⟨h.1, h.2.1, hx1.below b, hx2.below b⟩)
        have HS4 : Hid (∀ W, Below wf.heap.size wf W → (W.cell? ⟨w.heap.size, 0, none⟩ = some (.int .i64 A.kind) ∧ W.cell? ⟨w.heap.size, 1, none⟩ = some (.string A.name) ∧ W.cell? ⟨w.heap.size, 2, none⟩ = some (.slice A.da A.data.length A.dc) ∧ W.cell? ⟨w.heap.size, 3, none⟩ = some (.slice A.aa A.L.length A.ac) ∧ W.cell? ⟨w.heap.size, 4, none⟩ = some (.int .u32 A.slot) ∧ W.cell? ⟨w.heap.size, 5, none⟩ = some (.int .u32 A.gen) ∧ W.cell? ⟨w.heap.size + 1, 0, none⟩ = some (.int .i64 B.kind) ∧ W.cell? ⟨w.heap.size + 1, 1, none⟩ = some (.string B.name) ∧ W.cell? ⟨w.heap.size + 1, 2, none⟩ = some (.slice B.da B.data.length B.dc) ∧ W.cell? ⟨w.heap.size + 1, 3, none⟩ = some (.slice B.aa B.L.length B.ac) ∧ W.cell? ⟨w.heap.size + 1, 4, none⟩ = some (.int .u32 B.slot) ∧ W.cell? ⟨w.heap.size + 1, 5, none⟩ = some (.int .u32 B.gen) ∧ W.cell? ⟨g1, 0, none⟩ = some (.int .i64 M1.kind) ∧ W.cell? ⟨g1, 1, none⟩ = some (.string M1.name) ∧ W.cell? ⟨g1, 2, none⟩ = some (.slice M1.da M1.data.length M1.dc) ∧ W.cell? ⟨g1, 3, none⟩ = some (.slice M1.aa M1.L.length M1.ac) ∧ W.cell? ⟨g1, 4, none⟩ = some (.int .u32 M1.slot) ∧ W.cell? ⟨g1, 5, none⟩ = some (.int .u32 M1.gen) ∧ W.cell? ⟨g2, 0, none⟩ = some (.int .i64 M2.kind) ∧ W.cell? ⟨g2, 1, none⟩ = some (.string M2.name) ∧ W.cell? ⟨g2, 2, none⟩ = some (.slice M2.da M2.data.length M2.dc) ∧ W.cell? ⟨g2, 3, none⟩ = some (.slice M2.aa M2.L.length M2.ac) ∧ W.cell? ⟨g2, 4, none⟩ = some (.int .u32 M2.slot) ∧ W.cell? ⟨g2, 5, none⟩ = some (.int .u32 M2.gen))) := Lib.hid (fun W b => by
          obtain ⟨a0, a1, a2, a3, a4, a5, _⟩ := box_cells (KF.out W b).1.x
          obtain ⟨c0, c1, c2, c3, c4, c5, _⟩ := box_cells (KF.out W b).2.1.x
          obtain ⟨d0, d1, d2, d3, d4, d5, _⟩ := box_cells (KF.out W b).2.2.1.x
          obtain ⟨e0, e1, e2, e3, e4, e5, _⟩ := box_cells (KF.out W b).2.2.2.x
          exact ⟨a0, a1, a2, a3, a4, a5, c0, c1, c2, c3, c4, c5, d0, d1, d2, d3, d4, d5, e0, e1, e2, e3, e4, e5⟩)
        have HLM : Hid (M1.L.length ≤ 1099511627776 ∧ M2.L.length ≤ 1099511627776) := Lib.hid ⟨by rw [hx1.same.len]; exact HLN.out.1, by rw [hx2.same.len]; exact HLN.out.2⟩
        have HDF : Hid (Below wf.heap.size wf wf.drew) := Lib.hid (Below.refl _ _).drew
        have hka : (ka != ka) = false := by simp
        have hkb : (kb != kb) = false := by simp
        have hbb : ∀ b : Bool, (b != b) = false := fun b => by cases b <;> rfl
        clear hx1 hx2 hbf HSP
        go_upto_region 9 with fail
        go_region_held3 (fun W => W.cell? ⟨w.heap.size, 0, none⟩ = some (.int .i64 A.kind) ∧ W.cell? ⟨w.heap.size, 1, none⟩ = some (.string A.name) ∧ W.cell? ⟨w.heap.size, 2, none⟩ = some (.slice A.da A.data.length A.dc) ∧ W.cell? ⟨w.heap.size, 3, none⟩ = some (.slice A.aa A.L.length A.ac) ∧ W.cell? ⟨w.heap.size, 4, none⟩ = some (.int .u32 A.slot) ∧ W.cell? ⟨w.heap.size, 5, none⟩ = some (.int .u32 A.gen) ∧ W.cell? ⟨w.heap.size + 1, 0, none⟩ = some (.int .i64 B.kind) ∧ W.cell? ⟨w.heap.size + 1, 1, none⟩ = some (.string B.name) ∧ W.cell? ⟨w.heap.size + 1, 2, none⟩ = some (.slice B.da B.data.length B.dc) ∧ W.cell? ⟨w.heap.size + 1, 3, none⟩ = some (.slice B.aa B.L.length B.ac) ∧ W.cell? ⟨w.heap.size + 1, 4, none⟩ = some (.int .u32 B.slot) ∧ W.cell? ⟨w.heap.size + 1, 5, none⟩ = some (.int .u32 B.gen) ∧ W.cell? ⟨g1, 0, none⟩ = some (.int .i64 M1.kind) ∧ W.cell? ⟨g1, 1, none⟩ = some (.string M1.name) ∧ W.cell? ⟨g1, 2, none⟩ = some (.slice M1.da M1.data.length M1.dc) ∧ W.cell? ⟨g1, 3, none⟩ = some (.slice M1.aa M1.L.length M1.ac) ∧ W.cell? ⟨g1, 4, none⟩ = some (.int .u32 M1.slot) ∧ W.cell? ⟨g1, 5, none⟩ = some (.int .u32 M1.gen) ∧ W.cell? ⟨g2, 0, none⟩ = some (.int .i64 M2.kind) ∧ W.cell? ⟨g2, 1, none⟩ = some (.string M2.name) ∧ W.cell? ⟨g2, 2, none⟩ = some (.slice M2.da M2.data.length M2.dc) ∧ W.cell? ⟨g2, 3, none⟩ = some (.slice M2.aa M2.L.length M2.ac) ∧ W.cell? ⟨g2, 4, none⟩ = some (.int .u32 M2.slot) ∧ W.cell? ⟨g2, 5, none⟩ = some (.int .u32 M2.gen))
          (first | exact HS4.out _ hb9 | exact HS4.out _ hb8 | exact HS4.out _ hb7 | exact HS4.out _ hb6 | exact HS4.out _ hb5 | exact HS4.out _ hb4 | exact HS4.out _ hb3 | exact HS4.out _ hb2 | exact HS4.out _ hb1 | exact HS4.out _ HDF.out)
          (first
          | (have hh := hb8; go_at_call 17; refine (HEQT.out _ M1 (KF.out _ hb8).2.2.1.ln.nd HLM.out.1).mono ?_; rintro e x9 ⟨rfl, b9⟩; have hb9 := hb8.trans (b9.mono hb8.size))
          | (have hh := hb7; go_at_call 18; refine (HER.out _ A B r2 (KF.out _ hb7).1.nd (KF.out _ hb7).2.1.nd HLN.out.1 (by rw [hr2, (KF.out _ hb7).2.2.1.same.c, (KF.out _ hb7).2.2.2.same.c]; exact ⟨EqD.symm, EqD.symm⟩)).mono ?_; rintro e x8 ⟨rfl, b8⟩; have hb8 := hb7.trans (b8.mono hb7.size))
          | (have hh := hb6; go_at_call 17; refine (HEQ.out _ M2 M1 (KF.out _ hb6).2.2.2.ln.nd (KF.out _ hb6).2.2.1.ln.nd HLM.out.2 HLM.out.1).mono ?_; rintro e x7 ⟨r2, rfl, hr2, b7⟩; have hb7 := hb6.trans (b7.mono hb6.size))
          | (have hh := hb5; go_at_call 18; refine (HER.out _ A B r1 (KF.out _ hb5).1.nd (KF.out _ hb5).2.1.nd HLN.out.1 (by rw [hr1, (KF.out _ hb5).2.2.1.same.c, (KF.out _ hb5).2.2.2.same.c])).mono ?_; rintro e x6 ⟨rfl, b6⟩; have hb6 := hb5.trans (b6.mono hb5.size))
          | (have hh := hb4; go_at_call 17; refine (HEQ.out _ M1 M2 (KF.out _ hb4).2.2.1.ln.nd (KF.out _ hb4).2.2.2.ln.nd HLM.out.1 HLM.out.2).mono ?_; rintro e x5 ⟨r1, rfl, hr1, b5⟩; have hb5 := hb4.trans (b5.mono hb4.size))
          | (have hh := hb3; go_at_call 16; refine (HCR.out _ B kb (KF.out _ hb3).2.1.nd HK.out.2).mono ?_; rintro e x4 ⟨rfl, b4⟩; have hb4 := hb3.trans (b4.mono hb3.size))
          | (have hh := hb2; go_at_call 15; refine (HCK.out _ M2 kb (KF.out _ hb2).2.2.2.ln.nd (by rw [(KF.out _ hb2).2.2.2.same.c]; exact HK.out.2)).mono ?_; rintro e x3 ⟨rfl, b3⟩; have hb3 := hb2.trans (b3.mono hb2.size))
          | (have hh := hb1; go_at_call 16; refine (HCR.out _ A ka (KF.out _ hb1).1.nd HK.out.1).mono ?_; rintro e x2 ⟨rfl, b2⟩; have hb2 := hb1.trans (b2.mono hb1.size))
          | (go_at_call 15; refine (HCK.out _ M1 ka (KF.out _ HDF.out).2.2.1.ln.nd (by rw [(KF.out _ HDF.out).2.2.1.same.c]; exact HK.out.1)).mono ?_; rintro e x1 ⟨rfl, b1⟩; have hb1 := HDF.out.trans (b1.mono HDF.out.size)))
        have HB9 := Lib.hid hb9
        clear hb1 hb2 hb3 hb4 hb5 hb6 hb7 hb8 hb9 b1 b2 b3 b4 b5 b6 b7 b8 b9 hr1 hr2 hka hkb HCK HCR HEQ HEQT HER HDF
        have HDG : Hid (Below wf.heap.size wf x9.drew) := Lib.hid HB9.out.drew
        have HS2 : Hid (∀ W, Below wf.heap.size wf W → (W.cell? ⟨w.heap.size, 0, none⟩ = some (.int .i64 A.kind) ∧ W.cell? ⟨w.heap.size, 1, none⟩ = some (.string A.name) ∧ W.cell? ⟨w.heap.size, 2, none⟩ = some (.slice A.da A.data.length A.dc) ∧ W.cell? ⟨w.heap.size, 3, none⟩ = some (.slice A.aa A.L.length A.ac) ∧ W.cell? ⟨w.heap.size, 4, none⟩ = some (.int .u32 A.slot) ∧ W.cell? ⟨w.heap.size, 5, none⟩ = some (.int .u32 A.gen) ∧ W.cell? ⟨g1, 0, none⟩ = some (.int .i64 M1.kind) ∧ W.cell? ⟨g1, 1, none⟩ = some (.string M1.name) ∧ W.cell? ⟨g1, 2, none⟩ = some (.slice M1.da M1.data.length M1.dc) ∧ W.cell? ⟨g1, 3, none⟩ = some (.slice M1.aa M1.L.length M1.ac) ∧ W.cell? ⟨g1, 4, none⟩ = some (.int .u32 M1.slot) ∧ W.cell? ⟨g1, 5, none⟩ = some (.int .u32 M1.gen))) := Lib.hid (fun W b => by
          obtain ⟨a0, a1, a2, a3, a4, a5, _⟩ := box_cells (KF.out W b).1.x
          obtain ⟨d0, d1, d2, d3, d4, d5, _⟩ := box_cells (KF.out W b).2.2.1.x
          exact ⟨a0, a1, a2, a3, a4, a5, d0, d1, d2, d3, d4, d5⟩)
        have HMB : Hid (M1.Bd 1048576) := Lib.hid (NC.Bd.nd (by rw [(KF.out wf (Below.refl _ _)).2.2.1.same.c]; exact HBD.out.1.c))
        go_upto_region 11 with fail
        go_region_held3 (fun W => W.cell? ⟨w.heap.size, 0, none⟩ = some (.int .i64 A.kind) ∧ W.cell? ⟨w.heap.size, 1, none⟩ = some (.string A.name) ∧ W.cell? ⟨w.heap.size, 2, none⟩ = some (.slice A.da A.data.length A.dc) ∧ W.cell? ⟨w.heap.size, 3, none⟩ = some (.slice A.aa A.L.length A.ac) ∧ W.cell? ⟨w.heap.size, 4, none⟩ = some (.int .u32 A.slot) ∧ W.cell? ⟨w.heap.size, 5, none⟩ = some (.int .u32 A.gen) ∧ W.cell? ⟨g1, 0, none⟩ = some (.int .i64 M1.kind) ∧ W.cell? ⟨g1, 1, none⟩ = some (.string M1.name) ∧ W.cell? ⟨g1, 2, none⟩ = some (.slice M1.da M1.data.length M1.dc) ∧ W.cell? ⟨g1, 3, none⟩ = some (.slice M1.aa M1.L.length M1.ac) ∧ W.cell? ⟨g1, 4, none⟩ = some (.int .u32 M1.slot) ∧ W.cell? ⟨g1, 5, none⟩ = some (.int .u32 M1.gen))
          (first | exact HS2.out _ hb3 | exact HS2.out _ hb2 | exact HS2.out _ hb1 | exact HS2.out _ HDG.out)
          (first
          | (have hh := hb2; go_at_call 19; refine (HBO.out x9.drew y1 y2 C1 C2 hf1 hf2 b1.size b2 (by rw [hs1.c]; exact (KF.out _ hb1).2.2.1.same.c) (by rw [hs2.c]; exact (KF.out _ hb1).2.2.1.same.c) (fun w' hbw => (KF.out w' (hb2.trans (hbw.mono HDG.out.size))).1.nd)).mono ?_; rintro e y3 ⟨rfl, b3⟩; have hb3 := hb2.trans (b3.mono HDG.out.size))
          | (have hh := hb1; go_at_call 20; refine (HCL.out _ M1 (KF.out _ hb1).2.2.1.ln.nd HMB.out).mono ?_; rintro e y2 ⟨C2, rfl, hs2, hf2, b2⟩; have hb2 := hb1.trans (b2.mono hb1.size))
          | (go_at_call 20; refine (HCL.out _ M1 (KF.out _ HDG.out).2.2.1.ln.nd HMB.out).mono ?_; rintro e y1 ⟨C1, rfl, hs1, hf1, b1⟩; have hb1 := HDG.out.trans (b1.mono HDG.out.size)))
        have HB11 := Lib.hid hb3
        clear hb1 hb2 hb3 b1 b2 b3 hs1 hs2 hf1 hf2 HCL HBO HDG HMB
        obtain ⟨z0, z1, z2, z3, z4, z5, lz⟩ := box_cells (KF.out y3 HB11.out).1.x
        obtain ⟨v0, v1, v2, v3, v4, v5, lv⟩ := box_cells (KF.out y3 HB11.out).2.2.1.x
        go_wp2_with fail
        refine (HKP.out _ y3 M1 A (KF.out y3 HB11.out).2.2.1.ln (KF.out y3 HB11.out).1.nd (KF.out y3 HB11.out).2.2.1.same).mono ?_
        rintro e y4 ⟨rfl, b4⟩
        have HB12 := Lib.hid (HB11.out.trans (b4.mono HB11.out.size))
        clear b4 z0 z1 z2 z3 z4 z5 lz v0 v1 v2 v3 v4 v5 lv
        obtain ⟨z0, z1, z2, z3, z4, z5, lz⟩ := box_cells (KF.out y4 HB12.out).2.1.x
        obtain ⟨v0, v1, v2, v3, v4, v5, lv⟩ := box_cells (KF.out y4 HB12.out).2.2.2.x
        go_wp2_with fail
        refine (HKP.out _ y4 M2 B (KF.out y4 HB12.out).2.2.2.ln (KF.out y4 HB12.out).2.1.nd (KF.out y4 HB12.out).2.2.2.same).mono ?_
        rintro e y5 ⟨rfl, b5⟩
        have HB13 := Lib.hid (HB12.out.trans (b5.mono HB12.out.size))
        clear b5 z0 z1 z2 z3 z4 z5 lz v0 v1 v2 v3 v4 v5 lv
        go_wp2_with fail
        go_ret
        exact ⟨rfl, (KST.out y5 (HBf.out.trans (HB13.out.mono HBf.out.size))).2.2⟩
end Go.Proofs.Ytelhnaphkbpakaa

