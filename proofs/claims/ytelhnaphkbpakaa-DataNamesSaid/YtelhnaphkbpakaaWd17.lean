/- Text: units as a text. -/
import Derived.Test.YtelhnaphkbpakaaWd16
namespace Go.Proofs.Ytelhnaphkbpakaa
open Go.RowKit Go.Shelf
attribute [local go_sem] Oper.semAt_some
set_option linter.unusedVariables false
set_option maxRecDepth 100000

theorem points_stops {α : Type} (f : α → Un) (L : List α) (n : Nat) (hn : 1 ≤ n) (Bn : Nat) {w0 : World} {a : Option Addr} {us : List Nat} {cap : Nat} (hA : Sl16 w0 a us) (hL : L.map f = uns us) (w : World) (hB : Below w0.heap.size w0 w) (hBn : w.heap[Bn]? = some (.cells #[.slice a us.length cap] 24 (0, 0))) :
    SeqStopsK Fence.wide n Try.prog 108 #[.pointer (some ⟨Bn, 0, none⟩)] (fun x => encU (f x)) (KpX w0.heap.size Bn) (fun ys => ys = L) (fun pre => pre <+: L) L.length w := fun l J Jx W hW hJ _ hY h0 =>
  points1_in f L n hn l Bn hA hL J Jx W hJ hY ((hW.block _ (lt_of_some hBn)).trans hBn) (hB.trans (hW.mono hB.size)) h0

/-- The code point that is written: that of none, for a half. -/
def unC (x : Un) : Nat := if 55296 ≤ x.c ∧ x.c ≤ 57343 then 65533 else x.c
def textU (l : List Un) : List Nat := l.flatMap fun x => runeB (unC x)
theorem textU_len (l : List Un) : (textU l).length ≤ 4 * l.length := by
  unfold textU
  induction l with
  | nil => simp
  | cons x l ih =>
    simp only [List.flatMap_cons, List.length_append, List.length_cons]
    have := (runeB_len (unC x)).2
    omega
theorem textU_snoc (l : List Un) (x : Un) : textU (l ++ [x]) = textU l ++ runeB (unC x) := by simp [textU]
theorem encB_append (a b : List Nat) : encB (a ++ b) = encB a ++ encB b := by simp [encB]

theorem unC_scalar {us : List Nat} (hb : ∀ u ∈ us, u ≤ 65535) {pre : List Un} {x : Un} {rest : List Un} (h : uns us = pre ++ x :: rest) : Scalar (unC x) := by
  obtain ⟨q, hq, rfl⟩ := unsFrom_mem us 0 x (by rw [show unsFrom us 0 = uns us from rfl, h]; simp)
  have hq' : us.getD q 0 ≤ 65535 := by
    rw [getD_of (List.getElem?_eq_getElem hq)]
    exact hb _ (List.getElem_mem hq)
  unfold unC Scalar
  unfold unAt
  split
  · rename_i hp
    obtain ⟨h1, h2, h3, h4, h5⟩ := hp
    simp only
    rw [if_neg (by omega)]
    omega
  · simp only
    split <;> omega
theorem runeB_le (c : Nat) (hc : Scalar c) : ∀ b ∈ runeB c, b ≤ 255 := by
  intro b hb
  have hc' : c ≤ 1114111 := by rcases hc with h | h <;> omega
  unfold runeB at hb
  split at hb
  · simp at hb; omega
  · split at hb
    · simp at hb; omega
    · split at hb
      · simp at hb; omega
      · simp at hb; omega
theorem textU_le {us : List Nat} (hb : ∀ u ∈ us, u ≤ 65535) : ∀ b ∈ textU (uns us), b ≤ 255 := by
  intro b hb'
  obtain ⟨x, hx, hbx⟩ := List.mem_flatMap.1 hb'
  obtain ⟨l1, l2, h⟩ := List.append_of_mem hx
  exact runeB_le _ (unC_scalar hb h) b hbx

/-- A code point of units, which may be written. -/
abbrev UnOk := { x : Un // Scalar (unC x) }
def unsOk (us : List Nat) (hb : ∀ u ∈ us, u ≤ 65535) : List UnOk := (uns us).attachWith _ (fun x hx => by
  obtain ⟨l1, l2, h⟩ := List.append_of_mem hx
  exact unC_scalar hb h)
theorem unsOk_val (us : List Nat) (hb : ∀ u ∈ us, u ≤ 65535) : (unsOk us hb).map Subtype.val = uns us := by simp [unsOk]
def textO (l : List UnOk) : List Nat := textU (l.map Subtype.val)
theorem textO_snoc (l : List UnOk) (x : UnOk) : textO (l ++ [x]) = textO l ++ runeB (unC x.1) := by simp [textO, textU]
theorem textO_len (l : List UnOk) : (textO l).length ≤ 4 * l.length := by have := textU_len (l.map Subtype.val); simpa [textO] using this

structure TextI (B : Nat) (n : Nat) (a : Option Addr) (cap : Nat) (w0 : World) (pre : List UnOk) (W : World) : Prop where
  box : BoxRow 132 5 B B (encB (textO pre)) w0 W
  cap : W.heap[B + 1]? = some (.cells #[.slice a n cap] 24 (0, 0))

theorem textI_own (B : Nat) (n : Nat) (a : Option Addr) (cap : Nat) (w0 : World) (D : Nat) (hD : B ≤ D) : OwnFrom D (TextI B n a cap w0) := fun s X Y row hs hg hr =>
  ⟨hs.box.grow hg (fun r e => ⟨Nat.le_trans hD (hr r e).1, (hr r e).2⟩), blkGrow hs.cap hg (fun r e => (hr r e).2)⟩

theorem TextI.step {B : Nat} {n : Nat} {a : Option Addr} {cap : Nat} {w0 W w3 : World} {pre : List UnOk} {x : UnOk} (h : TextI B n a cap w0 pre W) {ba : Option Addr} {bn bc g c3 : Nat} {o : Obj}
    (hbx : W.heap[B]? = some (.cells #[.slice ba bn bc] 132 (0, 0))) (hrow : W.ownsRow B 5 1 (.slice ba bn bc) bn (encB (textO pre))) (hn : bn = (encB (textO pre)).length)
    (hown : w3.ownsRow B 5 1 (.slice (some ⟨g, 0, none⟩) (bn + (runeB (unC x.1)).length) c3) (bn + (runeB (unC x.1)).length) (encB (textO pre) ++ encB (runeB (unC x.1)))) (hgrow : (W.alloc o).grownBy w3 (Value.slice ba bn bc).ownBlock) :
    TextI B n a cap w0 (pre ++ [x]) (w3.setCell ⟨B, 0, none⟩ (.slice (some ⟨g, 0, none⟩) (bn + (runeB (unC x.1)).length) c3)) ∧ KeepsOthers W (w3.setCell ⟨B, 0, none⟩ (.slice (some ⟨g, 0, none⟩) (bn + (runeB (unC x.1)).length) c3)) ∧ KpX B (B + 1) W (w3.setCell ⟨B, 0, none⟩ (.slice (some ⟨g, 0, none⟩) (bn + (runeB (unC x.1)).length) c3)) := by
  obtain ⟨h1, h2, h3⟩ := h.box.push (by decide) hbx hrow hn hown hgrow (by rw [encB_len])
  have hk := push_keeps (bx := B) hrow hgrow h.cap (by decide) (by omega) (.slice (some ⟨g, 0, none⟩) (bn + (runeB (unC x.1)).length) c3)
  refine ⟨⟨by rw [textO_snoc, encB_append]; exact h1, hk⟩, h2, h3, fun o' ho' => by rw [h.cap] at ho'; cases ho'; exact hk⟩

set_option maxHeartbeats 4000000 in
theorem text_in (w : World) {a : Option Addr} {us : List Nat} (cap : Nat) (hA : Sl16 w a us) (hl : us.length ≤ 17592186044416) :
    CallsIn Fence.wide 5 Try.prog 75 #[.slice a us.length cap] w fun e w' => e = .returned (.string (strB (textU (uns us)))) ∧ Below w.heap.size w w' := by
  have HA := Lib.hid hA
  have hbnd := hA.bnd
  have HBND := Lib.hid hbnd
  have hLl : (unsOk us hbnd).length ≤ us.length := by
    have := uns_len us
    rw [← unsOk_val us hbnd, List.length_map] at this
    exact this
  have HLV := Lib.hid (unsOk_val us hbnd)
  have HTX : Hid (textO (unsOk us hbnd) = textU (uns us)) := Lib.hid (by unfold textO; rw [unsOk_val])
  obtain ⟨L, hL⟩ : ∃ L, L = unsOk us hbnd := ⟨_, rfl⟩
  rw [← hL] at hLl HLV HTX
  obtain ⟨n, hn⟩ : ∃ n, n = us.length := ⟨_, rfl⟩
  have HN := Lib.hid hn
  rw [← hn] at hl hLl ⊢
  clear hA hn hbnd hL
  refine callsIn_of_wp_marks Try.func75 rfl trivial ?_ rfl
  simp only [Try.ntmps75, List.size_toArray, List.length_cons, List.length_nil, Nat.reduceAdd, Nat.reduceSub, Array.replicate_succ, Array.replicate_zero, List.push_toArray, List.append_toArray, List.nil_append, List.cons_append]
  gi_wp2_with (refine ⟨trivial, ?_⟩; gi_at_call 97; refine (callsIn_wide.2 (points_calls _ _ _ _)).mono ?_; rintro e w' ⟨rfl, rfl⟩)
  have hw0 : Below w.heap.size w ((w.alloc (.cells #[.slice none 0 0] 132)).alloc (.cells #[.slice a n cap] 24)) := ((Below.refl _ w).alloc (Nat.le_refl _) _).alloc (by simp) _
  have hbx0 : ((w.alloc (.cells #[.slice none 0 0] 132)).alloc (.cells #[.slice a n cap] 24)).heap[w.heap.size]? = some (.cells #[.slice none 0 0] 132 (0, 0)) := alloc_blk (Go.heap_alloc_new w _) _
  have hbx1 : ((w.alloc (.cells #[.slice none 0 0] 132)).alloc (.cells #[.slice a n cap] 24)).heap[w.heap.size + 1]? = some (.cells #[.slice a n cap] 24 (0, 0)) := by
    have := Go.heap_alloc_new (w.alloc (.cells #[.slice none 0 0] 132)) (.cells #[.slice a n cap] 24)
    rwa [World.size_alloc] at this
  have hI0 : TextI w.heap.size n a cap w [] ((w.alloc (.cells #[.slice none 0 0] 132)).alloc (.cells #[.slice a n cap] 24)) :=
    ⟨⟨⟨none, 0, hbx0, World.ownsRow_nil _ _ _ _⟩, hw0, hw0.size, Nat.le_refl _⟩, hbx1⟩
  have hst := points_stops Subtype.val L 4 (by decide) (w.heap.size + 1) (cap := cap) HA.out HLV.out _ hw0 (by rw [← HN.out]; exact hbx1)
  generalize hW : ((w.alloc (.cells #[.slice none 0 0] 132)).alloc (.cells #[.slice a n cap] 24)) = W0 at hw0 hI0 hst ⊢
  have hW0 : W0.heap.size = w.heap.size + 1 + 1 := by rw [← hW]; simp
  clear hbx0 hbx1 hW
  refine wpIn_rangeFunc_ownF rfl (by decide) (gf := 108) (lb := #[.pointer (some ⟨w.heap.size + 1, 0, none⟩)]) rfl trivial (enters_of Try.func108 (by kernel_rfl) rfl)
    hst (fun h k => h.trans k) (kpX_b (by omega) (by omega)) (Below.refl _ _) (fun _ => rfl)
    (TextI w.heap.size n a cap w) (fun _ _ _ => False) (textI_own _ _ _ _ _ _ (by omega)) (fun _ _ _ _ _ hs _ _ => hs) hI0
    (fun x => { tmps := #[.slice a n cap, undef, .string ⟨#[]⟩, .pointer (some ⟨w.heap.size, 0, none⟩), undef, .int .i32 (x.1.c : Int), .slice a n cap, .func (.func 108) #[] #[.pointer (some ⟨w.heap.size + 1, 0, none⟩)], .int .i64 (x.1.p : Int), .int .i32 (x.1.c : Int), undef, undef, undef, undef, undef, undef, undef], defers := [] }) ?assign ?body ?done ?stop
  case assign =>
    intro l x W K hK
    simp only [encU]
    gi_wp2
    exact hK
  case body =>
    rintro l pre x W hI hlt
    obtain ⟨ba, bc, hbx, hrow⟩ := hI.box.row
    have c0 := cell_blk hbx 0 rfl
    have hbl := textO_len pre
    obtain ⟨bn, hbn⟩ : ∃ bn, bn = (encB (textO pre)).length := ⟨_, rfl⟩
    rw [← hbn] at hbx hrow c0
    have hbn' : bn ≤ 70368744177664 := by rw [hbn, encB_len]; omega
    have hsz : w.heap.size < W.heap.size := lt_of_some hbx
    simp at c0
    have HI := Lib.hid hI
    have HR := Lib.hid (And.intro hbx (And.intro hrow hbn))
    have happ := rune_app hrow (unC x.1) x.2 hbn' (Nat.le_of_lt hsz)
    have HAPP := Lib.hid happ
    clear hI hbx hrow hbn happ hbl
    by_cases hlone : 55296 ≤ x.1.c ∧ x.1.c ≤ 57343
    · have e1 : unC x.1 = 65533 := by unfold unC; rw [if_pos hlone]
      have e2 : decide ((55296 : Int) ≤ (x.1.c : Int) ∧ (x.1.c : Int) ≤ 57343) = true := by simp; omega
      have HL1 := Lib.hid (lone_half (x.1.c : Int))
      rw [e2] at HL1
      rw [e1] at HAPP
      have E1 := Lib.hid e1
      clear e1 e2 hlone
      gi_wp2_with (first | (refine ⟨trivial, ?_⟩; gi_at_call 98; refine (CallsIn.inRound l (callsIn_wide.2 (HL1.out _))).mono ?_; rintro e w' ⟨rfl, rfl⟩) | (refine ⟨trivial, ?_⟩; gi_at_call 99; refine (CallsIn.inRound l (callsIn_wide.2 HAPP.out)).mono ?_; rintro e w3 ⟨g, c3, rfl, ho, o, hg⟩; have HO := Lib.hid (And.intro ho hg); have hb3 := rwApp HR.out.2.1 hg HR.out.1 (by decide); have d0 := cell_blk hb3 0 rfl; have d1 := free_blk hb3 0; have d2 := lt_of_some hb3; clear ho hg hb3 c0))
      have hs := HI.out.step (x := x) HR.out.1 HR.out.2.1 HR.out.2.2 (by rw [E1.out]; exact HO.out.1) HO.out.2
      rw [E1.out] at hs
      exact ⟨hs.2.1, hs.2.2, hs.1⟩
    · have e1 : unC x.1 = x.1.c := by unfold unC; rw [if_neg hlone]
      have e2 : decide ((55296 : Int) ≤ (x.1.c : Int) ∧ (x.1.c : Int) ≤ 57343) = false := by simp; omega
      have HL1 := Lib.hid (lone_half (x.1.c : Int))
      rw [e2] at HL1
      rw [e1] at HAPP
      have E1 := Lib.hid e1
      clear e1 e2 hlone
      gi_wp2_with (first | (refine ⟨trivial, ?_⟩; gi_at_call 98; refine (CallsIn.inRound l (callsIn_wide.2 (HL1.out _))).mono ?_; rintro e w' ⟨rfl, rfl⟩) | (refine ⟨trivial, ?_⟩; gi_at_call 99; refine (CallsIn.inRound l (callsIn_wide.2 HAPP.out)).mono ?_; rintro e w3 ⟨g, c3, rfl, ho, o, hg⟩; have HO := Lib.hid (And.intro ho hg); have hb3 := rwApp HR.out.2.1 hg HR.out.1 (by decide); have d0 := cell_blk hb3 0 rfl; have d1 := free_blk hb3 0; have d2 := lt_of_some hb3; clear ho hg hb3 c0))
      have hs := HI.out.step (x := x) HR.out.1 HR.out.2.1 HR.out.2.2 (by rw [E1.out]; exact HO.out.1) HO.out.2
      rw [E1.out] at hs
      exact ⟨hs.2.1, hs.2.2, hs.1⟩
  case done =>
    rintro D ys W hD rfl hI hK
    obtain ⟨ba, bc, hbx, hrow⟩ := hI.box.row
    have c0 := cell_blk hbx 0 rfl
    obtain ⟨bn, hbn⟩ : ∃ bn, bn = (encB (textO ys)).length := ⟨_, rfl⟩
    rw [← hbn] at hbx hrow c0
    simp at c0
    have hconv := run_string_row (P := Try.prog) (w := W) (src := 132) (dst := 9) (l := textO ys) Try.underlying132 Try.underlying5 Try.underlying9 hrow (by rw [HTX.out]; exact textU_le HBND.out)
    rw [HTX.out] at hconv
    have HI := Lib.hid hI
    clear hI hbx hrow hbn
    gi_wp2
    refine ⟨by simp, .inl ⟨_, _, rfl, run_takeDeferred hK, ?_⟩⟩
    exact ⟨_, results_tmp rfl _ _ _, rfl, HI.out.box.bel.trans (belowK_b (w := w) (Nat.le_refl _) W D _ _ (by omega) hK rfl rfl)⟩
  case stop =>
    rintro D c pre W _ _ h _
    exact h.elim

theorem text_calls (w : World) {a : Option Addr} {us : List Nat} (cap : Nat) (hA : Sl16 w a us) (hl : us.length ≤ 17592186044416) :
    Calls Try.prog 75 #[.slice a us.length cap] w fun e w' => e = .returned (.string (strB (textU (uns us)))) ∧ Below w.heap.size w w' := callsIn_wide.1 (text_in w cap hA hl)
end Go.Proofs.Ytelhnaphkbpakaa
