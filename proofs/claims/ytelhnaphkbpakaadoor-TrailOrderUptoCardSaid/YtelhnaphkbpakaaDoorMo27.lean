/- trail.Down and trail.Size over a tree in memory. The law of the order, plain: of the nodes that Down tells, where they stand to one another. append of any slice, nil too, onto a slice that the call owns, inside a fence. No program. What the loop of TrailOrder over Down puts together: the row of the handles that it was told. What a script of makings does to a forest. No program. What the loops of TrailOrder behind the first one stand on: each call's answer by the numbers of the row. -/
import Derived.OwnWalkIn
import Derived.Test.YtelhnaphkbpakaaDoorMo26
namespace Go.Proofs.YtelhnaphkbpakaaDoor
open Go.RowKit Go.Shelf
attribute [local go_sem] Oper.semAt_some
set_option linter.unusedVariables false
set_option maxRecDepth 100000

theorem downT_calls (w : World) (o : Option Addr) (s g : Int) :
    Calls Tryd.prog 26 #[.pointer o, .agg #[.int .u32 s, .int .u32 g]] w fun e w' => e = .returned (.func (.func 56) #[] #[.pointer (some ⟨w.heap.size, 0, none⟩), .pointer (some ⟨w.heap.size + 1, 0, none⟩)]) ∧ w' = (w.alloc (.cells #[.pointer o] 25)).alloc (.cells #[.int .u32 s, .int .u32 g] 31) := by
  go_enter Tryd.func26, Tryd.ntmps26
  go_wp2
  go_ret
  exact ⟨rfl, rfl⟩
/-- What Size has counted. -/
structure SzI (w : World) (C : Nat) (pre : List Nat) (W : World) : Prop where
  box : W.heap[C]? = some (.cells #[.int .i64 (pre.length : Int)] 3 (0, 0))
  low : Below w.heap.size w W
theorem FrT.lowB {T : List TypeId} {B n : Nat} {A C : World} (f : FrT T B A C) (hn : n ≤ B) (hA : n ≤ A.heap.size) : Below n A C :=
  ⟨f.os, f.tape, f.output, f.size, fun k hk => by
    have e : A.heap[k]? = some A.heap[k] := Array.getElem?_eq_getElem (by omega)
    rw [e]; exact f.block k _ e (.inl (by omega))⟩

section
variable {B : Nat} {Q : Nat → Prop} {w : World} {tb : Nat} {X : TX}
set_option maxHeartbeats 8000000 in
theorem sizeT_calls (h : TreeAt B Q w tb X) (hz : NoneAt w) {r : Nat} {xr : FN} (hr : X.F[r]? = some xr) (hrl : xr.live = true) :
    Calls Tryd.prog 25 #[.pointer (some ⟨tb, 0, none⟩), .agg #[.int .u32 (xr.sl : Int), .int .u32 (xr.gn : Int)]] w fun e w' => e = .returned (.tuple #[.int .i64 ((preD X.F r).length : Int), .int .i64 0]) ∧ Below w.heap.size w w' := by
  refine (callsIn_wide (n := 10)).1 ?_
  have ok := h.fok
  have hrlen := (List.getElem?_eq_some_iff.1 hr).1
  have hplen := preD_len ok hrlen
  have hbig := h.rw.big
  obtain ⟨nba, Pa, hma, hata, hsla, hs2a, hg2a⟩ := h.rw.at_live hr hrl
  have HT := Lib.hid h
  have HZ := Lib.hid hz
  have HLI : Hid (∀ W1 gb, Below w.heap.size w W1 → HRow W1 gb [(xr.sl, xr.gn)] → Calls Tryd.prog 40 #[.pointer (some ⟨tb, 0, none⟩), .slice (some ⟨gb, 0, none⟩) 1 1] W1 fun e w' => e = .returned (.int .i64 0) ∧ Below W1.heap.size W1 w') := Lib.hid (fun W1 gb b hr1 => lives_calls (h.rw.below b) hr1 (by simp) (.inl ⟨rfl, by
    intro p hp
    obtain rfl := List.mem_singleton.1 hp
    exact ⟨r, xr, hr, hrl, rfl, rfl⟩⟩))
  have HHR : Hid (∀ W1 gb, W1.heap[gb]? = some (.cells #[.int .u32 (xr.sl : Int), .int .u32 (xr.gn : Int)] 31 (0, 0)) → HRow W1 gb [(xr.sl, xr.gn)]) := Lib.hid (fun W1 gb hgb => ⟨fun j p hp => by
    match j, hp with
    | 0, hp => cases hp; exact ⟨cell_blk hgb 0 rfl, cell_blk hgb 1 rfl⟩
    | j + 1, hp => simp at hp, by
    intro p hp
    obtain rfl := List.mem_singleton.1 hp; exact ⟨by simp only; omega, by simp only; omega⟩⟩)
  have HSEQ : Hid (∀ W Bt Bh, Below w.heap.size w W → W.heap[Bt]? = some (.cells #[.pointer (some ⟨tb, 0, none⟩)] 25 (0, 0)) → W.heap[Bh]? = some (.cells #[.int .u32 (xr.sl : Int), .int .u32 (xr.gn : Int)] 31 (0, 0)) → SeqT [31] Fence.wide 9 Tryd.prog 56 #[.pointer (some ⟨Bt, 0, none⟩), .pointer (some ⟨Bh, 0, none⟩)] (encK X.F) (KpD w.heap.size) (preD X.F r) W) := Lib.hid (fun W Bt Bh b h1 h2 => down1_seq h hz hr hrl 9 (by omega) b h1 h2)
  obtain ⟨L, hL⟩ : ∃ L, L = preD X.F r := ⟨_, rfl⟩
  rw [← hL] at HSEQ hplen ⊢
  have HBG : Hid (L.length ≤ 1099511627776) := Lib.hid (by omega)
  clear h hz hr hrl hma hata hsla hs2a hg2a ok hrlen hplen hbig hL
  generalize xr.sl = s at *
  generalize xr.gn = g at *
  obtain ⟨V, hV⟩ : ∃ V, V = (w.alloc (.cells #[.int .u32 (s : Int), .int .u32 (g : Int)] 31)).alloc (.cells #[.int .u32 (s : Int), .int .u32 (g : Int)] 31) := ⟨_, rfl⟩
  have bV : Below w.heap.size w V := by rw [hV]; exact (by repeat (first | exact Below.refl _ _ | assumption | refine Below.drew ?_ | refine below_drewN ?_ _ | refine Below.alloc ?_ (by simp <;> omega) _ | refine Below.setCell ?_ (by simp <;> omega) _ | (apply bl_trans; assumption; (simp <;> omega))))
  have hx : V.heap[w.heap.size + 1]? = some (.cells #[.int .u32 (s : Int), .int .u32 (g : Int)] 31 (0, 0)) := by rw [hV]; exact alloc2_blk w _ _
  have hy : V.heap[w.heap.size]? = some (.cells #[.int .u32 (s : Int), .int .u32 (g : Int)] 31 (0, 0)) := by rw [hV]; exact alloc_blk (Go.heap_alloc_new w _) _
  have HX := Lib.hid (And.intro hx (And.intro hy bV))
  have HLC := Lib.hid (HLI.out V _ bV (HHR.out V _ hx))
  have hV2 := hV
  clear hV hx hy bV
  have hro : Fence.wide.round = none := rfl
  refine callsIn_of_wp_marks Tryd.func25 rfl trivial ?_ rfl
  simp only [Tryd.ntmps25, List.size_toArray, List.length_cons, List.length_nil, Nat.reduceAdd, Nat.reduceSub, Array.replicate_succ, Array.replicate_zero, List.push_toArray, List.append_toArray, List.nil_append, List.cons_append]
  gi_wp2
  rw [← hV2]
  clear hV2
  gi_wp2_with (first | (refine ⟨trivial, ?_⟩; gi_at_call 40; refine (callsIn_wide.2 HLC.out).mono ?_; rintro e w1 ⟨rfl, b1⟩; have HB1 := Lib.hid (HX.out.2.2.trans (b1.mono HX.out.2.2.size)); have hy1 := (b1.block _ (lt_of_some HX.out.2.1)).trans HX.out.2.1; have c0 := cell_blk hy1 0 rfl; have c1 := cell_blk hy1 1 rfl; have lc := lt_of_some hy1; clear b1 hy1) | (refine ⟨trivial, ?_⟩; gi_at_call 26; refine (callsIn_wide.2 (downT_calls _ _ _ _)).mono ?_; rintro e w2 ⟨rfl, rfl⟩))
  have hb1 : Below w.heap.size w w1 := HB1.out
  have hs1 := hb1.size
  have hw0 : Below w.heap.size w (((w1.alloc (.cells #[.int .i64 0] 3)).alloc (.cells #[.pointer (some ⟨tb, 0, none⟩)] 25)).alloc (.cells #[.int .u32 (s : Int), .int .u32 (g : Int)] 31)) := ((hb1.alloc hs1 _).alloc (by simp; omega) _).alloc (by simp; omega) _
  obtain ⟨a1, a2, a3⟩ := alloc3_bt w1 (.cells #[.int .i64 0] 3) (.cells #[.pointer (some ⟨tb, 0, none⟩)] 25) (.cells #[.int .u32 (s : Int), .int .u32 (g : Int)] 31)
  generalize hW : ((w1.alloc (.cells #[.int .i64 0] 3)).alloc (.cells #[.pointer (some ⟨tb, 0, none⟩)] 25)).alloc (.cells #[.int .u32 (s : Int), .int .u32 (g : Int)] 31) = W0 at hw0 a1 a2 a3 ⊢
  have hs0 := hw0.size
  have hst := HSEQ.out W0 _ _ hw0 a2 a3
  have hI0 : SzI w w1.heap.size [] W0 := ⟨a1, hw0⟩
  have hC : w1.heap.size < W0.heap.size := lt_of_some a1
  clear hW a2 a3
  refine range_T (T := [31]) rfl (by decide) (gf := 56) (lb := #[.pointer (some ⟨w1.heap.size + 1, 0, none⟩), .pointer (some ⟨w1.heap.size + 1 + 1, 0, none⟩)]) rfl trivial (enters_of Tryd.func56 (by kernel_rfl) rfl)
    hst (fun h k => h.trans k) (kpD_b hs0) (Below.refl _ _) (fun _ => rfl)
    (SzI w w1.heap.size) (fun _ _ _ => False) ?own (fun _ _ _ _ _ hs _ _ => hs) ?abide (fun _ _ _ _ hs _ => hs) hI0
    (fun k => { tmps := #[.pointer (some ⟨tb, 0, none⟩), .agg #[.int .u32 (s : Int), .int .u32 (g : Int)], undef, .pointer (some ⟨w.heap.size, 0, none⟩), .int .i64 0, .int .i64 0, .int .i64 0, .pointer (some ⟨w1.heap.size, 0, none⟩), .pointer (some ⟨tb, 0, none⟩), .agg #[.int .u32 (s : Int), .int .u32 (g : Int)], .slice (some ⟨w.heap.size + 1, 0, none⟩) 1 1, .int .i64 0, .int .i64 0, .bool false, undef, .pointer (some ⟨tb, 0, none⟩), .agg #[.int .u32 (s : Int), .int .u32 (g : Int)], .func (.func 56) #[] #[.pointer (some ⟨w1.heap.size + 1, 0, none⟩), .pointer (some ⟨w1.heap.size + 1 + 1, 0, none⟩)], .agg #[.int .u32 ((hd X.F (some k)).1 : Int), .int .u32 ((hd X.F (some k)).2 : Int)], undef, undef, undef], defers := [] }) ?assign ?body ?done ?stop
  case own =>
    intro pre A C row hs hg hr
    refine ⟨(hg.block _ (lt_of_some hs.box) (fun e => ?_)).trans hs.box, hs.low.trans (grown_below hg (fun x e => by have := (hr x e).1; omega) hs.low.size)⟩
    obtain ⟨_, o, ho, hc⟩ := hr _ e.symm
    rw [hs.box] at ho
    cases ho
    cases hc
  case abide =>
    intro pre A C hs f
    exact ⟨f.block _ _ hs.box (.inr (fun e he => by cases he; decide)), hs.low.trans (f.lowB hs0 hs.low.size)⟩
  case assign =>
    intro l x W K hK
    simp only [encK]
    gi_wp2
    simpa using hK
  case body =>
    rintro l pre x W hI hpf
    have c0 := cell_blk hI.box 0 rfl
    have f0 := free_blk hI.box 0
    have lC := lt_of_some hI.box
    have hpl : pre.length + 1 ≤ L.length := by have := hpf.length_le; simpa using this
    have HI := Lib.hid hI
    have wp1 : IntKind.i64.wrap ((pre.length : Int) + 1) = (pre.length : Int) + 1 := IntWalk.i64_in _ (by have := HBG.out; omega)
    clear hI hpf
    gi_wp2
    have hbx : (W.setCell ⟨w1.heap.size, 0, none⟩ (.int .i64 ((pre.length : Int) + 1))).heap[w1.heap.size]? = some (.cells #[.int .i64 ((pre ++ [x]).length : Int)] 3 (0, 0)) := by
      have := set_blk HI.out.box 0 (.int .i64 ((pre.length : Int) + 1))
      simpa using this
    refine ⟨(KeepsOthers.setCell _ _ _).from _, ⟨(Below.refl _ _).setCell hs1 _, fun k c t fz ht e => ?_⟩, ⟨hbx, HI.out.low.setCell hs1 _⟩⟩
    have hk : k ≠ w1.heap.size := by
      rintro rfl
      rw [HI.out.box] at e
      cases e
      rcases ht with h | h <;> cases h
    rw [heap_setCell_other _ _ _ _ hk]
    exact e
  case done =>
    rintro D W hD hI hK
    have c0 := cell_blk hI.box 0 rfl
    have HI := Lib.hid hI
    clear hI
    gi_wp2
    refine ⟨by simp, .inl ⟨_, _, rfl, run_takeDeferred hK, ?_⟩⟩
    exact ⟨_, results_tmp2 rfl _ _ _, rfl, HI.out.low.trans (belowK_b (w := w) (Nat.le_refl _) W D _ _ (by omega) hK rfl rfl)⟩
  case stop =>
    rintro D c pre W _ _ h _
    exact h.elim
end
end Go.Proofs.YtelhnaphkbpakaaDoor

namespace Go.Proofs.YtelhnaphkbpakaaDoor
set_option linter.unusedVariables false

theorem root_same {F : For} (ok : FOk F) {k m : Nat} {lk l : List Nat} (hk : k < F.length) (hlk : Chain F k lk) (hl : Chain F m l) (hm : m ∈ preD F k) : l.getLast? = lk.getLast? := by
  obtain ⟨a, b, e⟩ := List.append_of_mem ((mem_preD ok hk hl).1 hm)
  have h1 := (hl.at e).det hlk
  rw [e, ← h1, List.getLast?_append]
  cases h : (k :: b).getLast? with
  | none => simp at h
  | some v => rfl
theorem ahead_of_idx {L : List Nat} {a b i j : Nat} (ha : L[i]? = some a) (hb : L[j]? = some b) (h : i < j) : Ahead L a b := by
  obtain ⟨hi, rfl⟩ := List.getElem?_eq_some_iff.1 ha
  obtain ⟨hj, rfl⟩ := List.getElem?_eq_some_iff.1 hb
  refine ⟨L.take i, (L.drop (i + 1)).take (j - (i + 1)), L.drop (j + 1), ?_⟩
  have h2 : L.drop (i + 1) = (L.drop (i + 1)).take (j - (i + 1)) ++ L[j] :: L.drop (j + 1) := by
    conv => lhs; rw [← List.take_append_drop (j - (i + 1)) (L.drop (i + 1))]
    rw [List.drop_drop, show i + 1 + (j - (i + 1)) = j by omega, List.drop_eq_getElem_cons hj]
  conv => lhs; rw [← List.take_append_drop i L, List.drop_eq_getElem_cons hi, h2]
  simp
theorem cmp_order {F : For} (ok : FOk F) {k r a b i j : Nat} {lk : List Nat} (hk : k < F.length) (hlk : Chain F k lk) (hr : lk.getLast? = some r) (ha : (preD F k)[i]? = some a) (hb : (preD F k)[j]? = some b) :
    (i < j → cmpP (preD F r) a b = -1) ∧ (i = j → cmpP (preD F r) a b = 0) ∧ (j < i → cmpP (preD F r) a b = 1) := by
  have hrl : r < F.length := hlk.mem_lt r (List.mem_of_getLast? hr)
  have hkm : k ∈ preD F r := (mem_preD ok hrl hlk).2 (List.mem_of_getLast? hr)
  obtain ⟨p, q, e⟩ := preD_infix ok hk r hrl hkm
  have hn := preD_nodup ok r hrl
  refine ⟨fun h => ?_, fun h => ?_, fun h => ?_⟩
  · exact cmpP_ahead (by rw [e]; exact Ahead.amid (ahead_of_idx ha hb h) p q) hn
  · subst h; rw [ha] at hb; cases hb; exact cmpP_self _ _
  · exact cmpP_behind (by rw [e]; exact Ahead.amid (ahead_of_idx hb ha h) p q) hn
theorem nodup_idx {L : List Nat} (hn : L.Nodup) {i j : Nat} {a : Nat} (hi : L[i]? = some a) (hj : L[j]? = some a) : i = j := by
  exact (List.getElem?_inj (List.getElem?_eq_some_iff.1 hi).1 hn).1 (hi.trans hj.symm)
theorem in_order {F : For} (ok : FOk F) {k a b i j : Nat} {lb : List Nat} (hk : k < F.length) (hlb : Chain F b lb) (ha : (preD F k)[i]? = some a) (hb : (preD F k)[j]? = some b) :
    a ∈ lb ↔ i ≤ j ∧ j < i + (preD F a).length := by
  have ham : a ∈ preD F k := List.mem_of_getElem? ha
  have hal := preD_lt ok hk ham
  rw [← mem_preD ok hal hlb]
  obtain ⟨p, q, e⟩ := preD_infix ok hal k hk ham
  have hn := preD_nodup ok k hk
  obtain ⟨t, ht⟩ := preD_head ok hal
  have hpa : (preD F k)[p.length]? = some a := by rw [e, ht]; simp
  have hi : i = p.length := nodup_idx hn ha hpa
  subst hi
  constructor
  · intro hm
    obtain ⟨m, hm⟩ := List.mem_iff_getElem?.1 hm
    have hml := (List.getElem?_eq_some_iff.1 hm).1
    have h2 : (preD F k)[p.length + m]? = some b := by
      rw [e, List.append_assoc, List.getElem?_append_right (by omega), show p.length + m - p.length = m by omega, List.getElem?_append_left hml, hm]
    have := nodup_idx hn hb h2
    omega
  · rintro ⟨h1, h2⟩
    rw [e, List.append_assoc, List.getElem?_append_right h1, List.getElem?_append_left (by omega)] at hb
    exact List.mem_of_getElem? hb
/-- The two masks of two nodes of one tree. -/
def Turned (x y : Int) : Prop := (x = 0 ∧ y = 0) ∨ (x = 10 ∧ y = 20) ∨ (x = 20 ∧ y = 10) ∨ (x = 2 ∧ y = 4) ∨ (x = 4 ∧ y = 2)
theorem turned_pos {F : For} (ok : FOk F) {k r a b i j : Nat} {lk ca cb : List Nat} (hk : k < F.length) (hlk : Chain F k lk) (hr : lk.getLast? = some r) (ha : (preD F k)[i]? = some a) (hb : (preD F k)[j]? = some b) (hca : Chain F a (a :: ca)) (hcb : Chain F b (b :: cb)) :
    Turned (posF F a b r r ca cb) (posF F b a r r cb ca) := by
  obtain ⟨h1, h2, h3⟩ := cmp_order ok hk hlk hr ha hb
  obtain ⟨g1, g2, g3⟩ := cmp_order ok hk hlk hr hb ha
  have hn := preD_nodup ok k hk
  unfold posF
  by_cases e : a = b
  · rw [if_pos e, if_pos e.symm]; exact .inl ⟨rfl, rfl⟩
  have hrr : ¬ (r ≠ r) := fun h => h rfl
  rw [if_neg e, if_neg (Ne.symm e)]
  simp only [if_neg hrr]
  have hij : i ≠ j := by rintro rfl; rw [ha] at hb; cases hb; exact e rfl
  by_cases e1 : b ∈ ca
  · have e2 : ¬ a ∈ cb := by
      intro e2
      have k1 := (in_order ok hk hca hb ha).1 (List.mem_cons_of_mem _ e1)
      have k2 := (in_order ok hk hcb ha hb).1 (List.mem_cons_of_mem _ e2)
      omega
    rw [if_pos e1, if_neg e2, if_pos e1]
    exact .inr (.inl ⟨rfl, rfl⟩)
  · rw [if_neg e1]
    by_cases e2 : a ∈ cb
    · rw [if_pos e2, if_pos e2]
      exact .inr (.inr (.inl ⟨rfl, rfl⟩))
    · rw [if_neg e2, if_neg e2, if_neg e1]
      rcases Nat.lt_or_gt_of_ne hij with h | h
      · rw [h1 h, g3 h]; exact .inr (.inr (.inr (.inr ⟨by simp, by simp⟩)))
      · rw [h3 h, g1 h]; exact .inr (.inr (.inr (.inl ⟨by simp, by simp⟩)))
end Go.Proofs.YtelhnaphkbpakaaDoor

namespace Go.Proofs.YtelhnaphkbpakaaDoor
open Go Go.RowKit
set_option linter.unusedVariables false

section
variable {P : Program} (w : World)
theorem wpListIn_append_any {F : Fence} {nF : Nat} {ops : Array Oper} {rest : List Oper} {o : Oper} {a : Act} {Q : Exit → Act → World → Prop} (hgd : o.guard = none) (s x : Operand) (t : TypeId)
    (ho : o.op = .call { callee := .builtin .append, args := #[s, x], argTypes := #[t, t] })
    (base : Nat) (e : TypeId) (i : TypeInfo) (z : Value) (size bytes : Nat) (ht : P.underlying t = some (.slice e)) (hi : P.info? e = some i) (hz : i.zero = some z)
    (hsize : i.size = size) (hby : i.bytes = bytes) (hzs : z.cells.size = size) (hsz : 0 < size)
    (v : Value) (n : Nat) (xs : List Value) (hs : a.eval s = v) (hown : w.ownsRow base e size v n xs)
    (xa : Option Addr) (m c : Nat) (news : List Value) (hx : a.eval x = .slice xa m c) (hl : news.length = m * size) (hsrc : m = 0 ∨ ∃ ad, xa = some ad ∧ ∀ j u, news[j]? = some u → w.cell? (ad.add j) = some u) (h1 : ∀ u ∈ news, u.oneCell' = true)
    (h63 : n + m ≤ maxLen) (hbytes : (n + m) * bytes ≤ 140737488355328) (hbase : base ≤ w.heap.size)
    (h : ∀ a' c' w', w'.ownsRow base e size (.slice a' (n + m) c') (n + m) (xs ++ news) → w.grownBy w' v.ownBlock → wpListIn F nF P ops Q rest (a.put o.dst (.slice a' (n + m) c')) w') : wpListIn F nF P ops Q (o :: rest) a w := by
  obtain ⟨v', w', hr, h2, h3, a', c', rfl⟩ := run_append_any (P := P) w t o.type base e i z size bytes ht hi hz hsize hby hzs hsz v n xs hown xa m c news hl hsrc h1 h63 hbytes hbase
  refine wpListIn_plain hgd fun K hK => ?_
  unfold Oper.wpIn
  refine ⟨by simp [Oper.about, ho, resolve, Target.leads, Sem.run_pure], ?_⟩
  rw [Oper.semAt_plain F _ _ (by rw [ho]; intro c hc'; cases hc')]
  simp [execOp, ho, resolve, invoke, builtin, hs, hx, hr, Result.andThen]
  exact hK _ _ (h a' c' w' h2 h3)
end
end Go.Proofs.YtelhnaphkbpakaaDoor

namespace Go.Proofs.YtelhnaphkbpakaaDoor
open Go.RowKit Go.Shelf
set_option linter.unusedVariables false
set_option maxRecDepth 100000

theorem FrB.grown {b : Nat} {w w' : World} (h : FrB b w w') : w.grownBy w' (some b) := ⟨h.os, h.tape, h.output, h.size, fun k hk hne => h.block k hk (fun e => hne (by rw [e]))⟩
theorem row_notcells {w : World} {base : Nat} {e : TypeId} {size : Nat} {v : Value} {n : Nat} {xs : List Value} (h : w.ownsRow base e size v n xs) {r : Nat} {o : Obj} (ho : w.heap[r]? = some o) (hc : o.isCells = false) : v.ownBlock ≠ some r := by
  intro hb
  rcases h.2 with ⟨rfl, _⟩ | ⟨g, cap, cur, rfl, _, hg, _⟩
  · cases hb
  · cases hb
    rw [hg] at ho
    cases ho
    cases hc
/-- The row of what was told, in its box; the root's box. -/
structure OlI (F : For) (w5 : World) (T10 T11 N sr gr : Nat) (pre : List Nat) (v : Value) (W : World) : Prop where
  low : Below w5.heap.size w5 W
  hb : W.heap[T10]? = some (.cells #[.int .u32 (sr : Int), .int .u32 (gr : Int)] 31 (0, 0))
  box : W.heap[T11]? = some (.cells #[v] 70 (0, 0))
  row : W.ownsRow N 31 2 v pre.length (hcells F pre)
section
variable {F : For} {w5 W W' : World} {T10 T11 N sr gr : Nat} {pre : List Nat} {v : Value}
theorem OlI.grown (h : OlI F w5 T10 T11 N sr gr pre v W) {row : Option Nat} (hg : W.grownBy W' row) (h1 : row ≠ some T10) (h2 : row ≠ some T11) (h3 : v.ownBlock = none ∨ v.ownBlock ≠ row) (h4 : ∀ r, row = some r → w5.heap.size ≤ r) : OlI F w5 T10 T11 N sr gr pre v W' :=
  ⟨h.low.trans (grown_below hg h4 h.low.size), (hg.block _ (lt_of_some h.hb) (Ne.symm h1)).trans h.hb, (hg.block _ (lt_of_some h.box) (Ne.symm h2)).trans h.box, h.row.kept hg h3⟩
theorem OlI.below (h : OlI F w5 T10 T11 N sr gr pre v W) (b : Below W.heap.size W W') : OlI F w5 T10 T11 N sr gr pre v W' :=
  h.grown (row := none) ⟨b.os, b.tape, b.output, b.size, fun k hk _ => b.block k hk⟩ (by simp) (by simp) (by cases v.ownBlock with | none => exact .inl rfl | some x => exact .inr (by simp)) (fun r e => by cases e)
end
/-- What holds of the loop, of the closure's box b. -/
def OlB (F : For) (w5 : World) (T10 T11 N sr gr b : Nat) (pre : List Nat) (W : World) : Prop := (N ≤ b ∧ N ≤ W.heap.size) ∧ ∃ v, OlI F w5 T10 T11 N sr gr pre v W ∧ v.ownBlock ≠ some b
section
variable {F : For} {w5 : World} {T10 T11 N sr gr : Nat}
theorem olB_own (h10 : T10 < N) (h11 : T11 < N) (h5 : w5.heap.size ≤ N) (b : Nat) : OwnFrom N (OlB F w5 T10 T11 N sr gr b) := by
  rintro pre A C row ⟨⟨hb, hn⟩, v, h, hne⟩ hg hr
  refine ⟨⟨hb, Nat.le_trans hn hg.size⟩, v, h.grown hg ?_ ?_ ?_ (fun r e => by have := (hr r e).1; omega), hne⟩
  · intro e; have := (hr _ e).1; omega
  · intro e; have := (hr _ e).1; omega
  · cases row with
    | none => cases hv : v.ownBlock with
      | none => exact .inl rfl
      | some x => exact .inr (by simp)
    | some r =>
      obtain ⟨_, o, ho, hc⟩ := hr r rfl
      exact .inr (row_notcells h.row ho hc)
theorem olB_abide (h10 : T10 < N) (h11 : T11 < N) (h5 : w5.heap.size ≤ N) : AbideB (OlB F w5 T10 T11 N sr gr) := by
  rintro b b' pre A C ⟨⟨hb, hn⟩, v, h, hne⟩ f hb'
  have hs := f.size
  refine ⟨⟨by omega, by omega⟩, v, h.grown f.grown (by simp; omega) (by simp; omega) (.inr hne) (fun r e => by cases e; omega), ?_⟩
  rcases hb' with rfl | ⟨h1, h2⟩
  · exact hne
  · intro e
    have := (h.row.lt _ e).2
    omega
end
/-- append onto an owned row, inside a fence; where the new row lies. -/
theorem wpListIn_append_lies {P : Program} (w : World) {F : Fence} {nF : Nat} {ops : Array Oper} {rest : List Oper} {o : Oper} {a : Act} {Q : Exit → Act → World → Prop} (hgd : o.guard = none) (s x : Operand) (t : TypeId)
    (ho : o.op = .call { callee := .builtin .append, args := #[s, x], argTypes := #[t, t] })
    (base : Nat) (e : TypeId) (i : TypeInfo) (z : Value) (size bytes : Nat) (ht : P.underlying t = some (.slice e)) (hi : P.info? e = some i) (hz : i.zero = some z)
    (hsize : i.size = size) (hby : i.bytes = bytes) (hzs : z.cells.size = size) (hsz : 0 < size)
    (v : Value) (n : Nat) (xs : List Value) (hs : a.eval s = v) (hown : w.ownsRow base e size v n xs)
    (ad : Addr) (m c : Nat) (news : List Value) (hx : a.eval x = .slice (some ad) m c) (hl : news.length = m * size) (hnews : ∀ j u, news[j]? = some u → w.cell? (ad.add j) = some u) (h1 : ∀ u ∈ news, u.oneCell' = true)
    (hm : 0 < m) (h63 : n + m ≤ maxLen) (hbytes : (n + m) * bytes ≤ 140737488355328) (hbase : base ≤ w.heap.size) (H : Nat) (hH : w.heap.size = H)
    (h : ∀ g cap w', w'.ownsRow base e size (.slice (some ⟨g, 0, none⟩) (n + m) cap) (n + m) (xs ++ news) → w.grownBy w' v.ownBlock → (v.ownBlock = some g ∨ g = H) → g < w'.heap.size → wpListIn F nF P ops Q rest (a.put o.dst (.slice (some ⟨g, 0, none⟩) (n + m) cap)) w') : wpListIn F nF P ops Q (o :: rest) a w := by
  obtain ⟨g, cap, w', hr, h2, h3, h4, h5⟩ := run_append_lies (P := P) w t o.type base e i z size bytes ht hi hz hsize hby hzs hsz v n xs hown ad m c news hl hnews h1 hm h63 hbytes hbase H hH
  refine wpListIn_plain hgd fun K hK => ?_
  unfold Oper.wpIn
  refine ⟨by simp [Oper.about, ho, resolve, Target.leads, Sem.run_pure], ?_⟩
  rw [Oper.semAt_plain F _ _ (by rw [ho]; intro c hc'; cases hc')]
  simp [execOp, ho, resolve, invoke, builtin, hs, hx, hr, Result.andThen]
  exact hK _ _ (h g cap w' h2 h3 h4 h5)
end Go.Proofs.YtelhnaphkbpakaaDoor

namespace Go.Proofs.YtelhnaphkbpakaaDoor
set_option linter.unusedVariables false

/-- One of a script, as data: what it does, to whom, where. -/
structure Mk where
  kind : Int
  a : Int
  b : Int
  back : Int
def upFuel (F : For) : Nat → Nat → List Nat
  | 0, _ => []
  | n + 1, k => match upOf F k with
    | none => []
    | some u => u :: upFuel F n u
/-- All that have a node. -/
def ups (F : For) (k : Nat) : List Nat := upFuel F F.length k
theorem upFuel_chain {F : For} {k : Nat} {c : List Nat} (h : Chain F k c) : ∀ n l, c = k :: l → l.length ≤ n → upFuel F n k = l := by
  induction h with
  | @root k x hx hu =>
    intro n l e hl
    obtain rfl : l = [] := by simpa using e.symm
    cases n with
    | zero => rfl
    | succ n =>
      have : upOf F k = none := by unfold upOf; rw [hx]; exact hu
      unfold upFuel
      rw [this]
  | @up k u x c hx hu hc ih =>
    intro n l e hl
    obtain rfl : c = l := by simpa using e
    obtain ⟨t, ht⟩ := hc.ne_nil
    subst ht
    cases n with
    | zero => simp at hl
    | succ n =>
      have : upOf F k = some u := by unfold upOf; rw [hx]; exact hu
      unfold upFuel
      rw [this]
      show u :: upFuel F n u = u :: t
      rw [ih n t rfl (by simp at hl; omega)]
theorem ups_chain {F : For} {k : Nat} {l : List Nat} (h : Chain F k (k :: l)) : ups F k = l :=
  upFuel_chain h _ l rfl (by have := h.len; simp at this; omega)
def moveF (F : For) (m : Mk) : For :=
  match F[pick8 m.a F.length]?, F[pick8 m.b F.length]? with
  | some x, some y =>
    if x.live = false ∨ y.live = false then F
    else if m.kind = 6 then (if pick8 m.a F.length = pick8 m.b F.length ∨ pick8 m.a F.length ∈ ups F (pick8 m.b F.length) ∨ x.up.isSome = true then F else hng F (pick8 m.a F.length) (pick8 m.b F.length) (y.down.length - pick8 m.back (y.down.length + 1)))
    else if m.kind = 7 then (match x.up with | none => F | some u => cutF F (pick8 m.a F.length) u)
    else if m.kind = 8 then (if x.up.isSome = true ∨ x.down.isEmpty = false then F else Kill F (pick8 m.a F.length))
    else F
  | _, _ => F
def stepF (F : For) (m : Mk) : For := if 1 ≤ m.kind ∧ m.kind ≤ 5 then Made F 0 0 else moveF F m
def runS (L : List Mk) : For := L.foldl stepF []
theorem runS_snoc (L : List Mk) (m : Mk) : runS (L ++ [m]) = stepF (runS L) m := by simp [runS]
/-- A forest but for its handles. -/
def fg (x : FN) : FN := { x with sl := 0, gn := 0 }
def fgt (F : For) : For := F.map fg
theorem fgt_len (F : For) : (fgt F).length = F.length := by simp [fgt]
theorem fgt_at (F : For) (k : Nat) : (fgt F)[k]? = (F[k]?).map fg := by simp [fgt]
theorem fgt_made (F : For) (s g : Nat) : fgt (Made F s g) = Made (fgt F) 0 0 := by simp [fgt, Made, fg]
theorem fgt_mod {F : For} {k : Nat} {f g : FN → FN} (h : ∀ x, fg (f x) = g (fg x)) : fgt (F.modify k f) = (fgt F).modify k g := by
  apply List.ext_getElem?
  intro j
  rw [fgt_at, List.getElem?_modify, List.getElem?_modify, fgt_at]
  by_cases e : k = j
  · subst e
    cases F[k]? with
    | none => rfl
    | some x => simp [h]
  · simp [e]
theorem fgt_hng (F : For) (i u p : Nat) : fgt (hng F i u p) = hng (fgt F) i u p := by
  unfold hng
  rw [fgt_mod (g := fun x => { x with up := some u }) (fun x => rfl), fgt_mod (g := fun y => { y with down := ins y.down p i }) (fun x => rfl)]
theorem fgt_cut (F : For) (i u : Nat) : fgt (cutF F i u) = cutF (fgt F) i u := by
  unfold cutF
  rw [fgt_mod (g := fun x => { x with up := none }) (fun x => rfl), fgt_mod (g := fun y => { y with down := y.down.filter (fun c => c != i) }) (fun x => rfl)]
theorem fgt_kill (F : For) (i : Nat) : fgt (Kill F i) = Kill (fgt F) i := by
  unfold Kill
  exact fgt_mod (fun x => rfl)
theorem fgt_up (F : For) (k : Nat) : upOf (fgt F) k = upOf F k := by
  unfold upOf
  rw [fgt_at]
  cases F[k]? <;> rfl
theorem fgt_upFuel (F : For) : ∀ n k, upFuel (fgt F) n k = upFuel F n k := by
  intro n
  induction n with
  | zero => intro k; rfl
  | succ n ih =>
    intro k
    unfold upFuel
    rw [fgt_up]
    cases upOf F k with
    | none => rfl
    | some u => show u :: _ = u :: _; rw [ih]
theorem fgt_ups (F : For) (k : Nat) : ups (fgt F) k = ups F k := by unfold ups; rw [fgt_len, fgt_upFuel]
theorem fgt_move (F : For) (m : Mk) : fgt (moveF F m) = moveF (fgt F) m := by
  unfold moveF
  rw [fgt_len, fgt_at, fgt_at, fgt_ups]
  cases h1 : F[pick8 m.a F.length]? with
  | none => rfl
  | some x =>
    cases h2 : F[pick8 m.b F.length]? with
    | none => rfl
    | some y =>
      simp only [Option.map_some]
      show fgt (if x.live = false ∨ y.live = false then F else _) = (if x.live = false ∨ y.live = false then fgt F else if m.kind = 6 then (if pick8 m.a F.length = pick8 m.b F.length ∨ pick8 m.a F.length ∈ ups F (pick8 m.b F.length) ∨ x.up.isSome = true then fgt F else hng (fgt F) (pick8 m.a F.length) (pick8 m.b F.length) (y.down.length - pick8 m.back (y.down.length + 1)))
        else if m.kind = 7 then (match x.up with | none => fgt F | some u => cutF (fgt F) (pick8 m.a F.length) u)
        else if m.kind = 8 then (if x.up.isSome = true ∨ x.down.isEmpty = false then fgt F else Kill (fgt F) (pick8 m.a F.length))
        else fgt F)
      split
      · rfl
      · split
        · split
          · rfl
          · exact fgt_hng _ _ _ _
        · split
          · cases x.up with
            | none => rfl
            | some u => exact fgt_cut _ _ _
          · split
            · split
              · rfl
              · exact fgt_kill _ _
            · rfl
theorem move_len (F : For) (m : Mk) : (moveF F m).length = F.length := by
  unfold moveF
  split
  · split
    · rfl
    · split
      · split
        · rfl
        · exact hng_len _ _ _ _
      · split
        · split
          · rfl
          · exact cutF_len _ _ _
        · split
          · split
            · rfl
            · exact kill_len _ _
          · rfl
  · rfl
theorem step_len (F : For) (m : Mk) : (stepF F m).length ≤ F.length + 1 := by
  unfold stepF
  split
  · simp [Made]
  · rw [move_len]; omega
theorem runS_len (L : List Mk) : ∀ F : For, (L.foldl stepF F).length ≤ F.length + L.length := by
  induction L with
  | nil => intro F; simp
  | cons m L ih =>
    intro F
    have h1 := ih (stepF F m)
    have h2 := step_len F m
    simp only [List.foldl_cons, List.length_cons]
    omega
theorem run_made {F : For} {L : List Mk} {m : Mk} (h : fgt F = runS L) (hm : 1 ≤ m.kind ∧ m.kind ≤ 5) (s g : Nat) : fgt (Made F s g) = runS (L ++ [m]) := by
  rw [runS_snoc, ← h, fgt_made]
  unfold stepF
  rw [if_pos hm]
theorem run_move {F : For} {L : List Mk} {m : Mk} (h : fgt F = runS L) (hm : ¬ (1 ≤ m.kind ∧ m.kind ≤ 5)) : fgt (moveF F m) = runS (L ++ [m]) := by
  rw [runS_snoc, ← h, fgt_move]
  unfold stepF
  rw [if_neg hm]
end Go.Proofs.YtelhnaphkbpakaaDoor

namespace Go.Proofs.YtelhnaphkbpakaaDoor
open Go.RowKit
set_option linter.unusedVariables false
set_option maxRecDepth 100000

def cmI (i j : Nat) : Int := if i < j then -1 else if j < i then 1 else 0
theorem ord_cases (s j z : Nat) : ∃ (a b c d e : Bool), decide ((s : Int) < (j : Int)) = a ∧ ((s : Int) == (j : Int)) = b ∧ decide ((j : Int) < (s : Int)) = c ∧ decide ((s : Int) ≤ (j : Int)) = d ∧ decide ((j : Int) < ((s + z : Nat) : Int)) = e ∧ decide (s ≤ j ∧ j < s + z) = (d && e) ∧
    ((a = true ∧ b = false ∧ c = false ∧ d = true ∧ cmI s j = -1 ∧ s < j) ∨ (a = false ∧ b = true ∧ c = false ∧ d = true ∧ cmI s j = 0 ∧ s = j) ∨ (a = false ∧ b = false ∧ c = true ∧ d = false ∧ cmI s j = 1 ∧ j < s)) := by
  refine ⟨_, _, _, _, _, rfl, rfl, rfl, rfl, rfl, ?_, ?_⟩
  · by_cases h1 : s ≤ j <;> by_cases h2 : j < s + z <;> simp [h1, h2] <;> omega
  · unfold cmI
    rcases Nat.lt_trichotomy s j with h | h | h
    · left; rw [if_pos h]; simp; omega
    · right; left; rw [if_neg (by omega), if_neg (by omega)]; simp; omega
    · right; right; rw [if_neg (by omega), if_pos h]; simp; omega
structure OrdW (tb T10 T11 g cap n sr gr : Nat) (e : Nat → Nat × Nat) (sz : Nat → Nat) (p : Nat → Nat → Int) (W : World) : Prop where
  pos : 0 < n
  few : n ≤ 200
  e0 : e 0 = (sr, gr)
  en : e n = (0, 0)
  szb : ∀ i, i < n → sz i ≤ 200
  turned : ∀ i j, i < n → j < n → Turned (p i j) (p j i)
  root : W.heap[T10]? = some (.cells #[.int .u32 (sr : Int), .int .u32 (gr : Int)] 31 (0, 0))
  box : W.heap[T11]? = some (.cells #[.slice (some ⟨g, 0, none⟩) n cap] 70 (0, 0))
  row : ∀ i, i < n → W.cell? ⟨g, i * 2, none⟩ = some (.int .u32 ((e i).1 : Int)) ∧ W.cell? ⟨g, i * 2 + 1, none⟩ = some (.int .u32 ((e i).2 : Int))
  next : ∀ Wr, Below W.heap.size W Wr → ∀ i, i < n → Calls Tryd.prog 23 #[.pointer (some ⟨tb, 0, none⟩), .agg #[.int .u32 ((e i).1 : Int), .int .u32 ((e i).2 : Int)], .agg #[.int .u32 (sr : Int), .int .u32 (gr : Int)]] Wr fun x w' => x = .returned (.tuple #[.agg #[.int .u32 ((e (i + 1)).1 : Int), .int .u32 ((e (i + 1)).2 : Int)], .int .i64 0]) ∧ Below Wr.heap.size Wr w'
  prev : ∀ Wr, Below W.heap.size W Wr → ∀ i, i + 1 < n → Calls Tryd.prog 24 #[.pointer (some ⟨tb, 0, none⟩), .agg #[.int .u32 ((e (i + 1)).1 : Int), .int .u32 ((e (i + 1)).2 : Int)], .agg #[.int .u32 (sr : Int), .int .u32 (gr : Int)]] Wr fun x w' => x = .returned (.tuple #[.agg #[.int .u32 ((e i).1 : Int), .int .u32 ((e i).2 : Int)], .int .i64 0]) ∧ Below Wr.heap.size Wr w'
  size : ∀ Wr, Below W.heap.size W Wr → ∀ i, i < n → Calls Tryd.prog 25 #[.pointer (some ⟨tb, 0, none⟩), .agg #[.int .u32 ((e i).1 : Int), .int .u32 ((e i).2 : Int)]] Wr fun x w' => x = .returned (.tuple #[.int .i64 (sz i : Int), .int .i64 0]) ∧ Below Wr.heap.size Wr w'
  cmp : ∀ Wr, Below W.heap.size W Wr → ∀ i j, i < n → j < n → Calls Tryd.prog 12 #[.pointer (some ⟨tb, 0, none⟩), .agg #[.int .u32 ((e i).1 : Int), .int .u32 ((e i).2 : Int)], .agg #[.int .u32 ((e j).1 : Int), .int .u32 ((e j).2 : Int)]] Wr fun x w' => x = .returned (.tuple #[.int .i64 (cmI i j), .bool true, .int .i64 0]) ∧ Below Wr.heap.size Wr w'
  con : ∀ Wr, Below W.heap.size W Wr → ∀ i j, i < n → j < n → Calls Tryd.prog 14 #[.pointer (some ⟨tb, 0, none⟩), .agg #[.int .u32 ((e i).1 : Int), .int .u32 ((e i).2 : Int)], .agg #[.int .u32 ((e j).1 : Int), .int .u32 ((e j).2 : Int)]] Wr fun x w' => x = .returned (.tuple #[.bool (decide (i ≤ j ∧ j < i + sz i)), .int .i64 0]) ∧ Below Wr.heap.size Wr w'
  posn : ∀ Wr, Below W.heap.size W Wr → ∀ i j, i < n → j < n → Calls Tryd.prog 13 #[.pointer (some ⟨tb, 0, none⟩), .agg #[.int .u32 ((e i).1 : Int), .int .u32 ((e i).2 : Int)], .agg #[.int .u32 ((e j).1 : Int), .int .u32 ((e j).2 : Int)]] Wr fun x w' => x = .returned (.tuple #[.int .i64 (p i j), .int .i64 0]) ∧ Below Wr.heap.size Wr w'

section
variable {B : Nat} {Q : Nat → Prop} {w3 W : World} {tb : Nat} {X : TX}
theorem ord_facts (h : TreeAt B Q w3 tb X) (hz : NoneAt w3) {k : Nat} {xk : FN} (hk : X.F[k]? = some xk) (hkl : xk.live = true) (hfew : X.F.length ≤ 200) {T10 T11 N : Nat} {v : Value} (hO : OlI X.F w3 T10 T11 N xk.sl xk.gn (preD X.F k) v W) :
    ∃ g cap e sz p, OrdW tb T10 T11 g cap (preD X.F k).length xk.sl xk.gn e sz p W := by
  have ok := h.fok
  have hkl' := (List.getElem?_eq_some_iff.1 hk).1
  have hlow : ∀ Wr, Below W.heap.size W Wr → Below w3.heap.size w3 Wr := fun Wr b => hO.low.trans (b.mono hO.low.size)
  obtain ⟨t, ht⟩ := preD_head ok hkl'
  have hpos : 0 < (preD X.F k).length := by rw [ht]; simp
  obtain ⟨g, cap, hv, _⟩ := hO.row.form hpos
  obtain ⟨lk, hlk⟩ := ok.acyc k xk hk
  obtain ⟨r, hr⟩ : ∃ r, lk.getLast? = some r := by
    obtain ⟨q, hq⟩ := hlk.ne_nil
    cases hl : lk.getLast? with
    | none => rw [hq] at hl; simp at hl
    | some r => exact ⟨r, rfl⟩
  have hplen := preD_len ok hkl'
  obtain ⟨n, hn⟩ : ∃ n, n = (preD X.F k).length := ⟨_, rfl⟩
  -- every node of the row
  have node : ∀ i, i < n → ∃ m xm c, (preD X.F k)[i]? = some m ∧ X.F[m]? = some xm ∧ xm.live = true ∧ Chain X.F m (m :: c) ∧ (m :: c).getLast? = some r ∧ k ∈ m :: c := fun i hi => by
    have hm : (preD X.F k)[i]? = some (preD X.F k)[i] := List.getElem?_eq_getElem (by omega)
    have hmem := List.mem_of_getElem? hm
    obtain ⟨xm, hxm, hxl⟩ := preD_live ok k hkl' ⟨xk, hk, hkl⟩ _ hmem
    obtain ⟨l, hl⟩ := ok.acyc _ xm hxm
    obtain ⟨c, hc⟩ := hl.ne_nil
    subst hc
    exact ⟨_, xm, c, hm, hxm, hxl, hl, (root_same ok hkl' hlk hl hmem).trans hr, (mem_preD ok hkl' hl).1 hmem⟩
  have wayOf : ∀ m c, Chain X.F m (m :: c) → ups X.F m = c := fun m c hc => ups_chain hc
  obtain ⟨e, he⟩ : ∃ e : Nat → Nat × Nat, e = fun i => hd X.F ((preD X.F k)[i]?) := ⟨_, rfl⟩
  have heq : ∀ {i m : Nat} {xm : FN}, (preD X.F k)[i]? = some m → X.F[m]? = some xm → e i = (xm.sl, xm.gn) := fun h1 h2 => by rw [he]; simp only; rw [h1]; exact hd_some h2
  obtain ⟨sz, hsz⟩ : ∃ sz : Nat → Nat, sz = fun i => match (preD X.F k)[i]? with | some m => (preD X.F m).length | none => 0 := ⟨_, rfl⟩
  have hsq : ∀ {i m : Nat}, (preD X.F k)[i]? = some m → sz i = (preD X.F m).length := fun h1 => by rw [hsz]; simp only; rw [h1]
  obtain ⟨p, hp⟩ : ∃ p : Nat → Nat → Int, p = fun i j => match (preD X.F k)[i]?, (preD X.F k)[j]? with | some a, some b => posF X.F a b r r (ups X.F a) (ups X.F b) | _, _ => 0 := ⟨_, rfl⟩
  have hpq : ∀ {i j a b : Nat}, (preD X.F k)[i]? = some a → (preD X.F k)[j]? = some b → p i j = posF X.F a b r r (ups X.F a) (ups X.F b) := fun h1 h2 => by rw [hp]; simp only; rw [h1, h2]
  refine ⟨g, cap, e, sz, p, ?_⟩
  rw [← hn] at hpos hplen hv ⊢
  refine ⟨hpos, by omega, ?_, ?_, fun i hi => ?_, fun i j hi hj => ?_, hO.hb, by rw [← hv]; exact hO.box, fun i hi => ?_, fun Wr b i hi => ?_, fun Wr b i hi => ?_, fun Wr b i hi => ?_, fun Wr b i j hi hj => ?_, fun Wr b i j hi hj => ?_, fun Wr b i j hi hj => ?_⟩
  · exact heq (by rw [ht]; rfl) hk
  · rw [he]; simp only; rw [List.getElem?_eq_none (by omega)]; rfl
  · obtain ⟨m, xm, c, h1, h2, h3, h4, h5, h6⟩ := node i hi
    rw [hsq h1]
    exact Nat.le_trans (preD_len ok (List.getElem?_eq_some_iff.1 h2).1) hfew
  · obtain ⟨a, xa, ca, h1, h2, h3, h4, h5, h6⟩ := node i hi
    obtain ⟨b, xb, cb, g1, g2, g3, g4, g5, g6⟩ := node j hj
    rw [hpq h1 g1, hpq g1 h1, wayOf a ca h4, wayOf b cb g4]
    exact turned_pos ok hkl' hlk hr h1 g1 h4 g4
  · obtain ⟨m, xm, c, h1, h2, h3, h4, h5, h6⟩ := node i hi
    have hrow := hO.row
    rw [← hn, hv] at hrow
    obtain ⟨k1, k2⟩ := hcells_at (F := X.F) h1
    rw [hrow.cellAt (i * 2) (by omega), hrow.cellAt (i * 2 + 1) (by omega), k1, k2, he]
    simp only
    rw [h1]
    exact ⟨rfl, rfl⟩
  · obtain ⟨m, xm, c, h1, h2, h3, h4, h5, h6⟩ := node i hi
    have hb := hlow Wr b
    have hsplit : preD X.F k = (preD X.F k).take i ++ m :: (preD X.F k).drop (i + 1) := by
      obtain ⟨hi', e1⟩ := List.getElem?_eq_some_iff.1 h1
      conv => lhs; rw [← List.take_append_drop i (preD X.F k), List.drop_eq_getElem_cons hi', e1]
    have hst := step_next ok k hkl' hsplit h4
    rw [List.head?_drop] at hst
    have h7 := nextT_calls (h.below hb) (hz.below hb) h2 h3 hk hkl h4 h6
    rw [← hst] at h7
    rw [heq h1 h2, show e (i + 1) = hd X.F ((preD X.F k)[i + 1]?) by rw [he]]
    exact h7
  · obtain ⟨m, xm, c, h1, h2, h3, h4, h5, h6⟩ := node (i + 1) hi
    obtain ⟨m0, xm0, c0, g1, g2, g3, g4, g5, g6⟩ := node i (by omega)
    have hb := hlow Wr b
    have hsplit : preD X.F k = (preD X.F k).take (i + 1) ++ m :: (preD X.F k).drop (i + 1 + 1) := by
      obtain ⟨hi', e1⟩ := List.getElem?_eq_some_iff.1 h1
      conv => lhs; rw [← List.take_append_drop (i + 1) (preD X.F k), List.drop_eq_getElem_cons hi', e1]
    have hlast : ((preD X.F k).take (i + 1)).getLast? = some m0 := by
      rw [List.take_add_one, g1]
      simp
    have hne : m ≠ k := by
      rintro rfl
      have h0 : (preD X.F m)[0]? = some m := by rw [ht]; rfl
      have := nodup_idx (preD_nodup ok m hkl') h1 h0
      omega
    rw [heq h1 h2, heq g1 g2]
    exact prevT_calls (h.below hb) (hz.below hb) h2 h3 hk hkl h4 h6 hne hsplit hlast g2
  · obtain ⟨m, xm, c, h1, h2, h3, h4, h5, h6⟩ := node i hi
    have hb := hlow Wr b
    rw [heq h1 h2, hsq h1]
    exact sizeT_calls (h.below hb) (hz.below hb) h2 h3
  · obtain ⟨a, xa, ca, h1, h2, h3, h4, h5, h6⟩ := node i hi
    obtain ⟨b', xb, cb, g1, g2, g3, g4, g5, g6⟩ := node j hj
    have hb := hlow Wr b
    rw [heq h1 h2, heq g1 g2]
    obtain ⟨o1, o2, o3⟩ := cmp_order ok hkl' hlk hr h1 g1
    refine compareT_calls (h.below hb) (hz.below hb) h2 h3 g2 g3 h4 g4 h5 g5 ⟨fun hne => absurd rfl hne, fun _ => ⟨?_, rfl⟩⟩
    unfold cmI
    rcases Nat.lt_trichotomy i j with h | h | h
    · rw [if_pos h, o1 h]
    · rw [if_neg (by omega), if_neg (by omega), o2 h]
    · rw [if_neg (by omega), if_pos h, o3 h]
  · obtain ⟨a, xa, ca, h1, h2, h3, h4, h5, h6⟩ := node i hi
    obtain ⟨b', xb, cb, g1, g2, g3, g4, g5, g6⟩ := node j hj
    have hb := hlow Wr b
    rw [heq h1 h2, heq g1 g2, hsq h1, ← decide_eq_decide.2 (in_order ok hkl' g4 h1 g1)]
    exact containsT_calls (h.below hb) (hz.below hb) h2 h3 g2 g3 g4
  · obtain ⟨a, xa, ca, h1, h2, h3, h4, h5, h6⟩ := node i hi
    obtain ⟨b', xb, cb, g1, g2, g3, g4, g5, g6⟩ := node j hj
    have hb := hlow Wr b
    rw [heq h1 h2, heq g1 g2, hpq h1 g1, wayOf a ca h4, wayOf b' cb g4]
    exact positionT_calls (h.below hb) (hz.below hb) h2 h3 g2 g3 h4 g4 h5 g5
end
end Go.Proofs.YtelhnaphkbpakaaDoor

