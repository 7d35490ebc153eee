/- trail.Down and trail.Up of a handle of no node; trail.Up tells its closure. What a round of TrailWalks and of TrailPairs asks: the asks in memory, the law's handle, told of Down and of Up. The law's awake: the document's examples come true. -/
import Derived.Test.YtelhnaphkbpakaaDoorMw40
namespace Go.Proofs.YtelhnaphkbpakaaDoor
open Go.RowKit Go.Shelf
attribute [local go_sem] Oper.semAt_some
set_option linter.unusedVariables false
set_option maxRecDepth 100000

theorem upT_calls (w : World) (o : Option Addr) (s g : Int) :
    Calls Tryd.prog 27 #[.pointer o, .agg #[.int .u32 s, .int .u32 g]] w fun e w' => e = .returned (.func (.func 57) #[] #[.pointer (some ⟨w.heap.size, 0, none⟩), .pointer (some ⟨w.heap.size + 1, 0, none⟩)]) ∧ w' = (w.alloc (.cells #[.pointer o] 25)).alloc (.cells #[.int .u32 s, .int .u32 g] 31) := by
  go_enter Tryd.func27, Tryd.ntmps27
  go_wp2
  go_ret
  exact ⟨rfl, rfl⟩
set_option maxHeartbeats 2000000 in
/-- Of a handle of no node that lives nothing is told. -/
theorem down1_dead {B : Nat} {Q : Nat → Prop} {w0 w : World} {tb : Nat} {X : TX} {Lf : Nat → Nat → Nat × Nat} (h : TreeRw B Q w0 tb X Lf) {s g : Nat} (hsg : s ≤ 4294967295 ∧ g ≤ 4294967295) (hd : ¬ Lv X.F s g) (n : Nat) (hn : 1 ≤ n) {Bt Bh : Nat} {encs : Nat → Array Value} {Kp : World → World → Prop} (hB : Below w0.heap.size w0 w) (hBt : w.heap[Bt]? = some (.cells #[.pointer (some ⟨tb, 0, none⟩)] 25 (0, 0))) (hBh : w.heap[Bh]? = some (.cells #[.int .u32 (s : Int), .int .u32 (g : Int)] 31 (0, 0))) :
    SeqT [31] Fence.wide n Tryd.prog 56 #[.pointer (some ⟨Bt, 0, none⟩), .pointer (some ⟨Bh, 0, none⟩)] encs Kp [] w := by
  intro l J Jx W hW hJ hJx hY h0
  have bt0 := (hW.block _ (lt_of_some hBt)).trans hBt
  have bh0 := (hW.block _ (lt_of_some hBh)).trans hBh
  have c0 := cell_blk bt0 0 rfl
  have c1 := cell_blk bh0 0 rfl
  have c2 := cell_blk bh0 1 rfl
  have HJ := Lib.hid (And.intro hJ h0)
  have hro : Fence.wide.round = none := rfl
  have bW : Below w0.heap.size w0 (W.alloc (.cells #[.int .u32 (s : Int), .int .u32 (g : Int)] 31)) := (hB.trans (hW.mono hB.size)).alloc (Nat.le_trans hB.size hW.size) _
  have hgb := Go.heap_alloc_new W (.cells #[.int .u32 (s : Int), .int .u32 (g : Int)] 31)
  have hrow : HRow (W.alloc (.cells #[.int .u32 (s : Int), .int .u32 (g : Int)] 31)) W.heap.size [(s, g)] := ⟨fun j p hp => by
    match j, hp with
    | 0, hp => cases hp; exact ⟨cell_blk hgb 0 rfl, cell_blk hgb 1 rfl⟩
    | j + 1, hp => simp at hp, by
    intro p hp
    obtain rfl := List.mem_singleton.1 hp; exact ⟨by simp only; omega, by simp only; omega⟩⟩
  have HLC : Hid (Calls Tryd.prog 40 #[.pointer (some ⟨tb, 0, none⟩), .slice (some ⟨W.heap.size, 0, none⟩) 1 1] (W.alloc (.cells #[.int .u32 (s : Int), .int .u32 (g : Int)] 31)) fun e w' => e = .returned (.int .i64 51) ∧ Below (W.alloc (.cells #[.int .u32 (s : Int), .int .u32 (g : Int)] 31)).heap.size (W.alloc (.cells #[.int .u32 (s : Int), .int .u32 (g : Int)] 31)) w') := Lib.hid (lives_calls (h.below bW) hrow (by simp) (.inr ⟨rfl, (s, g), by simp, hd⟩))
  simp at c0 c1 c2
  clear hBt hBh hW hJ hJx hY h0 bt0 bh0 h hd hB bW hgb hrow
  refine callsIn_of_wp Tryd.func56 rfl trivial ?_ rfl
  simp only [Tryd.ntmps56, List.size_toArray, List.length_cons, List.length_nil, Nat.reduceAdd, Nat.reduceSub, Array.replicate_succ, Array.replicate_zero, List.push_toArray, List.append_toArray, List.nil_append, List.cons_append]
  gi_wp2_with (refine ⟨trivial, ?_⟩; gi_at_call 40; refine (callsIn_wide.2 HLC.out).mono ?_; rintro e w1 ⟨rfl, b1⟩; have HB1 := Lib.hid (((Below.refl W.heap.size W).alloc (Nat.le_refl _) _).trans (b1.mono ((Below.refl W.heap.size W).alloc (Nat.le_refl _) _).size)); clear b1)
  refine bodyPost_ret (results_none rfl _ _ _) rfl ?_
  exact ⟨⟨_, rfl⟩, .inl (HJ.out.1 [] W _ HJ.out.2 (FrT.of_below HB1.out))⟩
set_option maxHeartbeats 2000000 in
/-- Of a handle of no node that lives nothing is told. -/
theorem up1_dead {B : Nat} {Q : Nat → Prop} {w0 w : World} {tb : Nat} {X : TX} {Lf : Nat → Nat → Nat × Nat} (h : TreeRw B Q w0 tb X Lf) {s g : Nat} (hsg : s ≤ 4294967295 ∧ g ≤ 4294967295) (hd : ¬ Lv X.F s g) (n : Nat) (hn : 1 ≤ n) {Bt Bh : Nat} {encs : Nat → Array Value} {Kp : World → World → Prop} (hB : Below w0.heap.size w0 w) (hBt : w.heap[Bt]? = some (.cells #[.pointer (some ⟨tb, 0, none⟩)] 25 (0, 0))) (hBh : w.heap[Bh]? = some (.cells #[.int .u32 (s : Int), .int .u32 (g : Int)] 31 (0, 0))) :
    SeqT [31] Fence.wide n Tryd.prog 57 #[.pointer (some ⟨Bt, 0, none⟩), .pointer (some ⟨Bh, 0, none⟩)] encs Kp [] w := by
  intro l J Jx W hW hJ hJx hY h0
  have bt0 := (hW.block _ (lt_of_some hBt)).trans hBt
  have bh0 := (hW.block _ (lt_of_some hBh)).trans hBh
  have c0 := cell_blk bt0 0 rfl
  have c1 := cell_blk bh0 0 rfl
  have c2 := cell_blk bh0 1 rfl
  have HJ := Lib.hid (And.intro hJ h0)
  have hro : Fence.wide.round = none := rfl
  have bW : Below w0.heap.size w0 (W.alloc (.cells #[.int .u32 (s : Int), .int .u32 (g : Int)] 31)) := (hB.trans (hW.mono hB.size)).alloc (Nat.le_trans hB.size hW.size) _
  have hgb := Go.heap_alloc_new W (.cells #[.int .u32 (s : Int), .int .u32 (g : Int)] 31)
  have hrow : HRow (W.alloc (.cells #[.int .u32 (s : Int), .int .u32 (g : Int)] 31)) W.heap.size [(s, g)] := ⟨fun j p hp => by
    match j, hp with
    | 0, hp => cases hp; exact ⟨cell_blk hgb 0 rfl, cell_blk hgb 1 rfl⟩
    | j + 1, hp => simp at hp, by
    intro p hp
    obtain rfl := List.mem_singleton.1 hp; exact ⟨by simp only; omega, by simp only; omega⟩⟩
  have HLC : Hid (Calls Tryd.prog 40 #[.pointer (some ⟨tb, 0, none⟩), .slice (some ⟨W.heap.size, 0, none⟩) 1 1] (W.alloc (.cells #[.int .u32 (s : Int), .int .u32 (g : Int)] 31)) fun e w' => e = .returned (.int .i64 51) ∧ Below (W.alloc (.cells #[.int .u32 (s : Int), .int .u32 (g : Int)] 31)).heap.size (W.alloc (.cells #[.int .u32 (s : Int), .int .u32 (g : Int)] 31)) w') := Lib.hid (lives_calls (h.below bW) hrow (by simp) (.inr ⟨rfl, (s, g), by simp, hd⟩))
  simp at c0 c1 c2
  clear hBt hBh hW hJ hJx hY h0 bt0 bh0 h hd hB bW hgb hrow
  refine callsIn_of_wp Tryd.func57 rfl trivial ?_ rfl
  simp only [Tryd.ntmps57, List.size_toArray, List.length_cons, List.length_nil, Nat.reduceAdd, Nat.reduceSub, Array.replicate_succ, Array.replicate_zero, List.push_toArray, List.append_toArray, List.nil_append, List.cons_append]
  gi_wp2_with (refine ⟨trivial, ?_⟩; gi_at_call 40; refine (callsIn_wide.2 HLC.out).mono ?_; rintro e w1 ⟨rfl, b1⟩; have HB1 := Lib.hid (((Below.refl W.heap.size W).alloc (Nat.le_refl _) _).trans (b1.mono ((Below.refl W.heap.size W).alloc (Nat.le_refl _) _).size)); clear b1)
  refine bodyPost_ret (results_none rfl _ _ _) rfl ?_
  exact ⟨⟨_, rfl⟩, .inl (HJ.out.1 [] W _ HJ.out.2 (FrT.of_below HB1.out))⟩
end Go.Proofs.YtelhnaphkbpakaaDoor

namespace Go.Proofs.YtelhnaphkbpakaaDoor
open Go.RowKit Go.Shelf
set_option linter.unusedVariables false
set_option maxRecDepth 100000

/-- One of the asks, as data. -/
structure AkV where
  a : Int
  b : Int
  c : Int
  e : Int
  s : Nat
  g : Nat
def AkV.cells (x : AkV) : List Value := [.int .i64 x.a, .int .i64 x.b, .int .i64 x.c, .int .i64 x.e, .int .u32 (x.s : Int), .int .u32 (x.g : Int)]
structure AkB (x : AkV) : Prop where
  a : -9223372036854775808 ≤ x.a ∧ x.a ≤ 9223372036854775807
  b : -9223372036854775808 ≤ x.b ∧ x.b ≤ 9223372036854775807
  c : -9223372036854775808 ≤ x.c ∧ x.c ≤ 9223372036854775807
  h : x.s ≤ 4294967295 ∧ x.g ≤ 4294967295
structure AksIn (w : World) (ad : Option Addr) (K : List AkV) : Prop where
  at_ : ∀ (i : Nat) (x : AkV), K[i]? = some x → ∃ k off, ad = some ⟨k, off, none⟩ ∧ ∀ j v, x.cells[j]? = some v → w.cell? ⟨k, off + i * 6 + j, none⟩ = some v
  ok : ∀ x ∈ K, AkB x
theorem AksIn.below {w W : World} {a : Option Addr} {K : List AkV} (h : AksIn w a K) (b : Below w.heap.size w W) : AksIn W a K :=
  ⟨fun i x hx => by
    obtain ⟨k, off, e, hc⟩ := h.at_ i x hx
    exact ⟨k, off, e, fun j v hv => (b.cell (p := ⟨k, off + i * 6 + j, none⟩) (cell_lt (hc j v hv))).trans (hc j v hv)⟩, h.ok⟩

theorem MksIn.low {w W : World} {a : Option Addr} {L : List MkV} (h : MksIn w a L) (b : Below w.heap.size w W) : MksIn W a L :=
  ⟨fun i x hx => by
    obtain ⟨k, off, e, hc⟩ := h.at_ i x hx
    exact ⟨k, off, e, fun j v hv => (b.cell (p := ⟨k, off + i * 6 + j, none⟩) (cell_lt (hc j v hv))).trans (hc j v hv)⟩,
   fun x hx => ⟨(h.ok x hx).1, (h.ok x hx).2.1.keep (fun k o hk => (b.block k (lt_of_some hk)).trans hk), (h.ok x hx).2.2⟩⟩

section
variable {B B' : Nat} {Q Q' : Nat → Prop} {w : World} {tb fb : Nat} {X : TX} {F : For} {R : List RN} {rv : Value}
theorem handle_any (h : FoAt B Q w fb F R rv) (hb : BdH F) {wh : Int} (hwh : -9223372036854775808 ≤ wh ∧ wh ≤ 9223372036854775807) {s g : Nat} (hsg : s ≤ 4294967295 ∧ g ≤ 4294967295) :
    ∃ sa ga : Nat, (sa ≤ 4294967295 ∧ ga ≤ 4294967295) ∧ ∀ W, Below w.heap.size w W → Calls Tryd.prog 10 #[.pointer (some ⟨fb, 0, none⟩), .int .i64 wh, .agg #[.int .u32 (s : Int), .int .u32 (g : Int)]] W fun e w' => e = .returned (.agg #[.int .u32 (sa : Int), .int .u32 (ga : Int)]) ∧ Below W.heap.size W w' := by
  by_cases hc : F.length = 0 ∨ wh < -1000
  · exact ⟨s, g, hsg, fun W b => handle_by (h.below b) hc⟩
  · have h0 : 0 < F.length := by omega
    have hx : F[pick8 wh F.length]? = some (F[pick8 wh F.length]'(pick8_lt wh h0)) := List.getElem?_eq_getElem _
    exact ⟨_, _, hb _ (List.mem_of_getElem? hx), fun W b => handle_of (h.below b) hwh h0 (by omega) hx⟩
/-- What a list of told nodes is: of a node that lives its order, of none nothing. -/
def LsOf (F : For) (f : Nat → List Nat) (sa ga : Nat) (L : List Nat) : Prop := (∃ (k : Nat) (x : FN), F[k]? = some x ∧ x.live = true ∧ x.sl = sa ∧ x.gn = ga ∧ L = f k) ∨ (¬ Lv F sa ga ∧ L = [])
theorem told_down (ht : TreeAt B Q w tb X) (hf : FoAt B' Q' w fb X.F R rv) (hz : NoneAt w) {sa ga : Nat} (hsa : sa ≤ 4294967295 ∧ ga ≤ 4294967295) {Bt Bh : Nat} (hBt : w.heap[Bt]? = some (.cells #[.pointer (some ⟨tb, 0, none⟩)] 25 (0, 0))) (hBh : w.heap[Bh]? = some (.cells #[.int .u32 (sa : Int), .int .u32 (ga : Int)] 31 (0, 0)))
    {base : Nat} {wa : Option Addr} {n kc : Nat} {L : List Nat} (hwt : w.ownsRow base 3 1 (.slice wa n kc) n (icells L)) (hn : L.length = n) (hL : LsOf X.F (preD X.F) sa ga L) {early : Int} :
    Calls Tryd.prog 33 #[.pointer (some ⟨fb, 0, none⟩), .func (.func 56) #[] #[.pointer (some ⟨Bt, 0, none⟩), .pointer (some ⟨Bh, 0, none⟩)], .slice wa n kc, .int .i64 early] w fun e w' => e = .returned (.bool true) ∧ Below w.heap.size w w' := by
  have ok := ht.fok
  rcases hL with ⟨k, x, hx, hxl, rfl, rfl, rfl⟩ | ⟨hd, rfl⟩
  · have hk := (List.getElem?_eq_some_iff.1 hx).1
    exact callsIn_wide.1 (told_in hf hwt hn (fun m hm => preD_lt ok hk hm) (by rw [← hn]; exact preD_len ok hk) (enters_of Tryd.func56 (by kernel_rfl) rfl)
      (fun m W hm b => down1_seq ht hz hx hxl m hm b ((b.block _ (lt_of_some hBt)).trans hBt) ((b.block _ (lt_of_some hBh)).trans hBh)))
  · exact callsIn_wide.1 (told_in hf hwt hn (fun m hm => absurd hm (List.not_mem_nil)) (by rw [← hn]; exact Nat.zero_le _) (enters_of Tryd.func56 (by kernel_rfl) rfl)
      (fun m W hm b => down1_dead ht.rw hsa hd m hm b ((b.block _ (lt_of_some hBt)).trans hBt) ((b.block _ (lt_of_some hBh)).trans hBh)))
theorem told_up (ht : TreeAt B Q w tb X) (hf : FoAt B' Q' w fb X.F R rv) (hz : NoneAt w) {sa ga : Nat} (hsa : sa ≤ 4294967295 ∧ ga ≤ 4294967295) {Bt Bh : Nat} (hBt : w.heap[Bt]? = some (.cells #[.pointer (some ⟨tb, 0, none⟩)] 25 (0, 0))) (hBh : w.heap[Bh]? = some (.cells #[.int .u32 (sa : Int), .int .u32 (ga : Int)] 31 (0, 0)))
    {base : Nat} {wa : Option Addr} {n kc : Nat} {L : List Nat} (hwt : w.ownsRow base 3 1 (.slice wa n kc) n (icells L)) (hn : L.length = n) (hL : LsOf X.F (postD X.F) sa ga L) {early : Int} :
    Calls Tryd.prog 33 #[.pointer (some ⟨fb, 0, none⟩), .func (.func 57) #[] #[.pointer (some ⟨Bt, 0, none⟩), .pointer (some ⟨Bh, 0, none⟩)], .slice wa n kc, .int .i64 early] w fun e w' => e = .returned (.bool true) ∧ Below w.heap.size w w' := by
  have ok := ht.fok
  rcases hL with ⟨k, x, hx, hxl, rfl, rfl, rfl⟩ | ⟨hd, rfl⟩
  · have hk := (List.getElem?_eq_some_iff.1 hx).1
    exact callsIn_wide.1 (told_in hf hwt hn (fun m hm => preD_lt ok hk ((postD_mem ok hk).1 hm)) (by rw [← hn]; exact postD_le ok hk) (enters_of Tryd.func57 (by kernel_rfl) rfl)
      (fun m W hm b => up1_seq ht hz hx hxl m hm b ((b.block _ (lt_of_some hBt)).trans hBt) ((b.block _ (lt_of_some hBh)).trans hBh)))
  · exact callsIn_wide.1 (told_in hf hwt hn (fun m hm => absurd hm (List.not_mem_nil)) (by rw [← hn]; exact Nat.zero_le _) (enters_of Tryd.func57 (by kernel_rfl) rfl)
      (fun m W hm b => up1_dead ht.rw hsa hd m hm b ((b.block _ (lt_of_some hBt)).trans hBt) ((b.block _ (lt_of_some hBh)).trans hBh)))
end
end Go.Proofs.YtelhnaphkbpakaaDoor

namespace Go.Proofs.YtelhnaphkbpakaaDoor
open Go.RowKit
set_option linter.unusedVariables false
set_option maxRecDepth 100000

theorem fgt_pre (F : For) : ∀ n k, pre (fgt F) n k = pre F n k := by
  have hd : ∀ k, dnOf (fgt F) (some k) = dnOf F (some k) := fun k => by
    unfold dnOf
    simp only [Option.bind_some, fgt_at]
    cases F[k]? <;> rfl
  intro n
  induction n with
  | zero => intro k; rfl
  | succ n ih =>
    intro k
    show k :: (dnOf (fgt F) (some k)).flatMap (pre (fgt F) n) = k :: (dnOf F (some k)).flatMap (pre F n)
    rw [hd]
    congr 1
    exact flatMap_cg (fun c _ => ih c)
theorem fgt_preD (F : For) (k : Nat) : preD (fgt F) k = preD F k := by unfold preD; rw [fgt_len, fgt_pre]
def mk8 (k a b : Int) : MkV := ⟨⟨k, a, b, 0⟩, ⟨#[]⟩, none, 0, []⟩
def L10 : List MkV := [mk8 4 0 0, mk8 1 0 0, mk8 2 0 0, mk8 1 0 0, mk8 2 0 0, mk8 1 0 0, mk8 6 1 0, mk8 6 2 1, mk8 6 3 1, mk8 6 4 3]
def G10 : For := [⟨0, 0, none, [1], true⟩, ⟨0, 0, some 0, [2, 3], true⟩, ⟨0, 0, some 1, [], true⟩, ⟨0, 0, some 1, [4], true⟩, ⟨0, 0, some 3, [], true⟩, ⟨0, 0, none, [], true⟩]
theorem run10 : runS (L10.map MkV.m) = G10 := by kernel_rfl
theorem pre10 : preD G10 0 = [0, 1, 2, 3, 4] := by kernel_rfl
theorem mks10 (w : World) : MksIn (w.alloc (.cells (L10.flatMap MkV.cells).toArray 76)) (some ⟨w.heap.size, 0, none⟩) L10 := by
  refine ⟨fun i x hx => ⟨w.heap.size, 0, rfl, fun j v hv => ?_⟩, fun x hx => ?_⟩
  · have hj : j < 6 := (List.getElem?_eq_some_iff.1 hv).1
    have e1 := fl_at (f := MkV.cells) (k := 6) (fun _ => rfl) hx j hj
    refine cell_blk (Go.heap_alloc_new w _) (0 + i * 6 + j) ?_
    rw [Nat.zero_add, List.getElem?_toArray, e1, hv]
  · have : ∀ k a b, (-9223372036854775808 ≤ a ∧ a ≤ 9223372036854775807) → (-9223372036854775808 ≤ b ∧ b ≤ 9223372036854775807) → MkB (mk8 k a b) ∧ Sl16 (w.alloc (.cells (L10.flatMap MkV.cells).toArray 76)) (mk8 k a b).ua (mk8 k a b).un ∧ (mk8 k a b).un.length ≤ (mk8 k a b).uc ∧ (mk8 k a b).uc ≤ 9223372036854775807 ∧ (mk8 k a b).un.length ≤ 1099511627776 := fun k a b ha hb =>
      ⟨⟨by show 0 ≤ _; omega, ha, hb, by show -9223372036854775808 ≤ (0 : Int) ∧ (0 : Int) ≤ 9223372036854775807; omega⟩, Sl16.nil _ _, Nat.le_refl _, by show 0 ≤ _; omega, by show 0 ≤ _; omega⟩
    simp only [L10, List.mem_cons, List.not_mem_nil, or_false] at hx
    rcases hx with rfl | rfl | rfl | rfl | rfl | rfl | rfl | rfl | rfl | rfl <;> exact this _ _ _ (by omega) (by omega)
theorem node10 : ∀ x ∈ L10, 1 ≤ x.m.kind → x.m.kind ≤ 5 → NodeC x := by
  intro x hx h1 h2
  simp only [L10, List.mem_cons, List.not_mem_nil, or_false] at hx
  rcases hx with rfl | rfl | rfl | rfl | rfl | rfl | rfl | rfl | rfl | rfl
  · exact nodeC4 rfl
  · exact nodeC1 rfl
  · exact nodeC2 rfl
  · exact nodeC1 rfl
  · exact nodeC2 rfl
  · exact nodeC1 rfl
  all_goals exact absurd h2 (by decide)
/-- What comes of the document's example. -/
theorem forest10 {F : For} {i : Nat} (h : fgt F = runS ((L10.map MkV.m).take i)) (hi : L10.length ≤ i ∨ 200 ≤ F.length) : fgt F = G10 := by
  have hl : F.length ≤ 10 := by
    have h1 : (runS ((L10.map MkV.m).take i)).length ≤ 0 + ((L10.map MkV.m).take i).length := runS_len ((L10.map MkV.m).take i) []
    have h2 : F.length = (runS ((L10.map MkV.m).take i)).length := by rw [← h, fgt_len]
    have h3 : ((L10.map MkV.m).take i).length ≤ 10 := by rw [List.length_take, List.length_map]; exact Nat.min_le_right _ _
    omega
  rcases hi with hi | hi
  · rw [h, List.take_of_length_le (by rw [List.length_map]; exact hi), run10]
  · omega
theorem at10 {F : For} (h : fgt F = G10) {k : Nat} {y : FN} (hy : G10[k]? = some y) : ∃ x : FN, F[k]? = some x ∧ x.up = y.up ∧ x.down = y.down ∧ x.live = y.live := by
  rw [← h, fgt_at, Option.map_eq_some_iff] at hy
  obtain ⟨x, hx, rfl⟩ := hy
  exact ⟨x, hx, rfl, rfl, rfl⟩

/-- What the walk of awake wants of the two forests. -/
structure Aw10 (tb fb g cap : Nat) (h0 h2 h4 h5 : Nat × Nat) (W : World) : Prop where
  f : W.cell? ⟨fb, 0, none⟩ = some (.slice (some ⟨g, 0, none⟩) 6 cap)
  a0 : W.cell? ⟨g, 0, none⟩ = some (.int .u32 (h0.1 : Int)) ∧ W.cell? ⟨g, 1, none⟩ = some (.int .u32 (h0.2 : Int))
  a2 : W.cell? ⟨g, 22, none⟩ = some (.int .u32 (h2.1 : Int)) ∧ W.cell? ⟨g, 23, none⟩ = some (.int .u32 (h2.2 : Int))
  a4 : W.cell? ⟨g, 44, none⟩ = some (.int .u32 (h4.1 : Int)) ∧ W.cell? ⟨g, 45, none⟩ = some (.int .u32 (h4.2 : Int))
  a5 : W.cell? ⟨g, 55, none⟩ = some (.int .u32 (h5.1 : Int)) ∧ W.cell? ⟨g, 56, none⟩ = some (.int .u32 (h5.2 : Int))
  cmp : Calls Tryd.prog 12 #[.pointer (some ⟨tb, 0, none⟩), .agg #[.int .u32 (h4.1 : Int), .int .u32 (h4.2 : Int)], .agg #[.int .u32 (h2.1 : Int), .int .u32 (h2.2 : Int)]] W fun e w' => e = .returned (.tuple #[.int .i64 1, .bool true, .int .i64 0]) ∧ Below W.heap.size W w'
  pos : Calls Tryd.prog 13 #[.pointer (some ⟨tb, 0, none⟩), .agg #[.int .u32 (h2.1 : Int), .int .u32 (h2.2 : Int)], .agg #[.int .u32 (h5.1 : Int), .int .u32 (h5.2 : Int)]] W fun e w' => e = .returned (.tuple #[.int .i64 37, .int .i64 0]) ∧ Below W.heap.size W w'
  siz : Calls Tryd.prog 25 #[.pointer (some ⟨tb, 0, none⟩), .agg #[.int .u32 (h0.1 : Int), .int .u32 (h0.2 : Int)]] W fun e w' => e = .returned (.tuple #[.int .i64 5, .int .i64 0]) ∧ Below W.heap.size W w'
theorem aw10 {w w2 : World} {tb fb : Nat} (hp : GrPost w L10 tb fb w2) (hz : NoneAt w2) : ∃ g cap h0 h2 h4 h5, ∀ W, Below w2.heap.size w2 W → Aw10 tb fb g cap h0 h2 h4 h5 W := by
  obtain ⟨Q, X, R, rv, i, hb, hf, hi, hl⟩ := hp
  have hG := forest10 hf hi
  have hlen : X.F.length = 6 := by have := congrArg List.length hG; rw [fgt_len] at this; exact this
  obtain ⟨x0, k0, u0, d0, v0⟩ := at10 hG (k := 0) rfl
  obtain ⟨x1, k1, u1, d1, v1⟩ := at10 hG (k := 1) rfl
  obtain ⟨x2, k2, u2, d2, v2⟩ := at10 hG (k := 2) rfl
  obtain ⟨x3, k3, u3, d3, v3⟩ := at10 hG (k := 3) rfl
  obtain ⟨x4, k4, u4, d4, v4⟩ := at10 hG (k := 4) rfl
  obtain ⟨x5, k5, u5, d5, v5⟩ := at10 hG (k := 5) rfl
  have c0 : Chain X.F 0 [0] := .root k0 u0
  have c1 : Chain X.F 1 [1, 0] := .up k1 u1 c0
  have c2 : Chain X.F 2 [2, 1, 0] := .up k2 u2 c1
  have c3 : Chain X.F 3 [3, 1, 0] := .up k3 u3 c1
  have c4 : Chain X.F 4 [4, 3, 1, 0] := .up k4 u4 c3
  have c5 : Chain X.F 5 [5] := .root k5 u5
  have hpre : preD X.F 0 = [0, 1, 2, 3, 4] := by rw [← fgt_preD, hG, pre10]
  obtain ⟨g, cap, P, dv, e, _⟩ := hb.f.get k0
  refine ⟨g, cap, (x0.sl, x0.gn), (x2.sl, x2.gn), (x4.sl, x4.gn), (x5.sl, x5.gn), fun W b => ?_⟩
  have hb2 := hb.below b
  have hz2 := hz.below b
  have cell : ∀ (k : Nat) (x : FN), X.F[k]? = some x → W.cell? ⟨g, k * 11, none⟩ = some (.int .u32 (x.sl : Int)) ∧ W.cell? ⟨g, k * 11 + 1, none⟩ = some (.int .u32 (x.gn : Int)) := fun k x hx => by
    obtain ⟨g2, cap2, P2, dv2, e2, _, q0, q1, _⟩ := hb2.f.get hx
    rw [e] at e2
    simp only [Value.slice.injEq, Option.some.injEq, Addr.mk.injEq, and_true, true_and] at e2
    obtain ⟨rfl, rfl⟩ := e2
    exact ⟨q0, q1⟩
  refine ⟨?_, cell 0 x0 k0, cell 2 x2 k2, cell 4 x4 k4, cell 5 x5 k5, ?_, ?_, ?_⟩
  · have := hb2.f.b0
    rw [e, hlen] at this
    exact this
  · refine compareT_calls hb2.t hz2 k4 v4 k2 v2 c4 c2 (ra := 0) (rb := 0) rfl rfl ⟨fun h => absurd rfl h, fun _ => ⟨?_, rfl⟩⟩
    rw [hpre]
    rfl
  · have := positionT_calls hb2.t hz2 k2 v2 k5 v5 (ra := 0) (rb := 5) c2 c5 rfl rfl
    rw [show posF X.F 2 5 0 5 [1, 0] [] = 37 from by unfold posF; simp] at this
    exact this
  · have := sizeT_calls hb2.t hz2 k0 v0
    rw [hpre] at this
    exact this

set_option maxHeartbeats 8000000 in
theorem awake8_true (w : World) (hz : NoneAt w) :
    Calls Tryd.prog 8 #[] w fun e w' => e = .returned (.bool true) ∧ Below w.heap.size w w' := by
  have HZ := Lib.hid hz
  have HG : Hid (Calls Tryd.prog 9 #[.slice (some ⟨w.heap.size, 0, none⟩) 10 10] (w.alloc (.cells (L10.flatMap MkV.cells).toArray 76)) fun e w' => ∃ tb fb, e = .returned (.tuple #[.pointer (some ⟨tb, 0, none⟩), .pointer (some ⟨fb, 0, none⟩), .bool true]) ∧ GrPost (w.alloc (.cells (L10.flatMap MkV.cells).toArray 76)) L10 tb fb w') := Lib.hid (grown_calls (mks10 w) (by show 10 ≤ _; omega) node10)
  have bV : Below w.heap.size w (w.alloc (.cells (L10.flatMap MkV.cells).toArray 76)) := (Below.refl _ _).alloc (Nat.le_refl _) _
  have HV := Lib.hid bV
  clear bV hz
  go_enter Tryd.func8, Tryd.ntmps8
  go_wp2_with (go_at_call 9; refine HG.out.mono ?_; rintro e w2 ⟨tb, fb, rfl, hp⟩; have HB2 : Hid (Below w.heap.size w w2) := Lib.hid (by obtain ⟨_, _, _, _, _, _, _, _, hl⟩ := hp; exact HV.out.trans (hl.mono HV.out.size)); obtain ⟨g, cap, ⟨s0, g0⟩, ⟨s2, g2⟩, ⟨s4, g4⟩, ⟨s5, g5⟩, ha⟩ := aw10 hp (HZ.out.below HB2.out); have HA := Lib.hid ha; have q := ha w2 (Below.refl _ _); have b0 := q.f; have y0 := q.a0.1; have y1 := q.a0.2; have y2 := q.a2.1; have y3 := q.a2.2; have y4 := q.a4.1; have y5 := q.a4.2; have y6 := q.a5.1; have y7 := q.a5.2; have lb := cell_lt b0; have lg := cell_lt y0; simp only at y0 y1 y2 y3 y4 y5 y6 y7 lb lg; clear hp ha q)
  go_wp2_with (first | (go_at_call 12; refine (HA.out _ (alloc3_lo w2 (.cells #[.int .u32 (s2 : Int), .int .u32 (g2 : Int)] 31) (.cells #[.int .u32 (s4 : Int), .int .u32 (g4 : Int)] 31) (.cells #[.int .u32 (s5 : Int), .int .u32 (g5 : Int)] 31))).cmp.mono ?_; rintro e w3 ⟨rfl, b3⟩; obtain ⟨p1, p2, p3⟩ := alloc3_bt w2 (.cells #[.int .u32 (s2 : Int), .int .u32 (g2 : Int)] 31) (.cells #[.int .u32 (s4 : Int), .int .u32 (g4 : Int)] 31) (.cells #[.int .u32 (s5 : Int), .int .u32 (g5 : Int)] 31); have hq1 := (b3.block _ (lt_of_some p1)).trans p1; have hq3 := (b3.block _ (lt_of_some p3)).trans p3; have t0 := cell_blk hq1 0 rfl; have t1 := cell_blk hq1 1 rfl; have t2 := cell_blk hq3 0 rfl; have t3 := cell_blk hq3 1 rfl; have HB3 := Lib.hid ((alloc3_lo w2 (.cells #[.int .u32 (s2 : Int), .int .u32 (g2 : Int)] 31) (.cells #[.int .u32 (s4 : Int), .int .u32 (g4 : Int)] 31) (.cells #[.int .u32 (s5 : Int), .int .u32 (g5 : Int)] 31)).trans (b3.mono (alloc3_lo w2 (.cells #[.int .u32 (s2 : Int), .int .u32 (g2 : Int)] 31) (.cells #[.int .u32 (s4 : Int), .int .u32 (g4 : Int)] 31) (.cells #[.int .u32 (s5 : Int), .int .u32 (g5 : Int)] 31)).size)); clear b3 p1 p2 p3 hq1 hq3) | (go_at_call 13; refine (HA.out _ HB3.out).pos.mono ?_; rintro e w4 ⟨rfl, b4⟩; have HB4 := Lib.hid (HB3.out.trans (b4.mono HB3.out.size)); have c0 := (HA.out _ HB4.out).f; have c1 := (HA.out _ HB4.out).a0.1; have c2 := (HA.out _ HB4.out).a0.2; simp only at c1 c2; clear b4) | (go_at_call 25; refine (HA.out _ HB4.out).siz.mono ?_; rintro e w5 ⟨rfl, b5⟩; have HB5 := Lib.hid (HB4.out.trans (b5.mono HB4.out.size)); clear b5))
  go_ret
  exact ⟨rfl, HB2.out.trans (HB5.out.mono HB2.out.size)⟩
end Go.Proofs.YtelhnaphkbpakaaDoor

