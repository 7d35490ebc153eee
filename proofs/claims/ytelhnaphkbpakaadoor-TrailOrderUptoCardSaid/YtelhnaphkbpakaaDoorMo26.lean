/- A range over a function whose closure writes into boxes of its own: what the loop asks of the closure is said with a frame by blocks and types. trail.Down's closure: it tells the nodes of the order, one by one. A range over a function whose closure writes into one box of its own at a time: what the loop asks of the closure is said box by box, so that the loop may write into rows of whatever type. trail.Down's closure again: of what was there it changes one box of its own at a time. trail's Contains, within, Next over a tree in memory, of nodes that live. The node ahead of another one in the order: the last one of what its sibling ahead has, or its parent. No program. trail.Prev over a tree in memory, of nodes that live. -/
import Derived.Conc.MuLone
import Derived.RangeFuncNested
import Derived.RangeFuncLeaves
import Derived.Sort.LoopGhostIn
import Derived.Sort.CutIn
import Derived.Sort.QuietIn
import Derived.Test.YtelhnaphkbpakaaDoorMo25
namespace Go.Proofs.YtelhnaphkbpakaaDoor
open Go.RowKit
set_option linter.unusedVariables false

/-- What is said of a world stands where only blocks from B on, of some types, were changed. -/
def AbideT {β : Type} (T : List TypeId) (B : Nat) (J : β → World → Prop) : Prop := ∀ s A C, J s A → FrT T B A C → J s C
/-- What a closure promises that is ranged over: it tells the elements of a list, one by one; its own boxes are of types of T. -/
def SeqT {α : Type} (T : List TypeId) (F : Fence) (n : Nat) (P : Program) (g : Nat) (lb : Array Value) (encs : α → Array Value) (Kp : World → World → Prop) (L : List α) (w : World) : Prop :=
  ∀ (l : Nat) (J Jx : List α → World → Prop) (W : World), Below w.heap.size w W → AbideT T W.heap.size J → AbideT T W.heap.size Jx →
    (∀ pre x W1, J pre W1 → pre ++ [x] <+: L → YieldAt F (n - 1) P l (encs x) W1 fun e W' => (e = .returned (.bool true) ∧ J (pre ++ [x]) W' ∧ Kp W1 W') ∨ (e = .returned (.bool false) ∧ Jx (pre ++ [x]) W')) →
    J [] W → CallsIn F n P g (#[.func (.yield l) #[] #[]] ++ lb) W fun e W' => (∃ v, e = .returned v) ∧ (J L W' ∨ ∃ pre, pre <+: L ∧ Jx pre W')

/-- The loop's two blocks. -/
structure LoopAt (k : Nat) (r : Loop) (W : World) : Prop where
  d : W.heap[k]? = some (.deferred (some []))
  r : W.heap[k + 1]? = some (.loop r)
theorem LoopAt.lt {k : Nat} {r : Loop} {W : World} (h : LoopAt k r W) : k + 1 < W.heap.size := lt_of_some h.r
theorem LoopAt.frt {k B : Nat} {r : Loop} {T : List TypeId} {A C : World} (h : LoopAt k r A) (f : FrT T B A C) : LoopAt k r C :=
  ⟨f.block _ _ h.d (.inr (fun e he => by cases he)), f.block _ _ h.r (.inr (fun e he => by cases he))⟩
theorem LoopAt.from {k B : Nat} {r : Loop} {A C : World} (h : LoopAt k r A) (f : KeepsFrom B A C) (hB : B ≤ k) : LoopAt k r C :=
  ⟨f.same _ _ hB h.d rfl, f.same _ _ (Nat.le_succ_of_le hB) h.r rfl⟩
theorem LoopAt.put {k : Nat} {r : Loop} {A : World} (h : LoopAt k r A) (r' : Loop) : LoopAt k r' (A.putObj (k + 1) (.loop r')) :=
  ⟨(World.putObj_heap_other (by omega)).trans h.d, World.putObj_heap_same h.lt⟩

theorem range_T {F : Fence} {n : Nat} {P : Program} {α : Type} {g : Operand} {ps : Array Tmp} {assign body : Code} {Q : Exit → Act → World → Prop} {a : Act} {w : World} {T : List TypeId}
    (hro : F.round = none) (h1 : 1 ≤ n) {gf : Nat} {lb : Array Value} (hg : a.eval g = .func (.func gf) #[] lb) (hFg : F.fn gf) (eg : ∀ args w, (callFunc gf args).run P w = .ok (.enter gf args) w)
    {encs : α → Array Value} {Kp : World → World → Prop} {L : List α} {w0 : World} (hseq : SeqT T F (n - 1) P gf lb encs Kp L w0)
    (hKt : ∀ {A B C : World}, Kp A B → Kp B C → Kp A C) (hKb : ∀ (W : World) (k : Nat) (o o' : Obj), w.heap.size ≤ k → W.heap[k]? = some o → o.isCells = false → o.isWalk = false → Kp W (W.putObj k o')) (hb0 : Below w0.heap.size w0 w) (hps : ∀ x, (encs x).size = ps.size)
    (I : List α → World → Prop) (Ix : Code → List α → World → Prop) (hI : OwnFrom w.heap.size I) (hIx : ∀ c, OwnFrom w.heap.size (Ix c)) (hIT : AbideT T w.heap.size I) (hIxT : ∀ c, AbideT T w.heap.size (Ix c)) (h0 : I [] w) (a₁ : α → Act)
    (hassign : ∀ (l : Nat) (x : α) (W : World) (K : Act → World → Prop), K (a₁ x) W →
      assign.wpIn (F.inRound l) (n - 1 - 1) P (Exit.then K (fun _ _ _ => False)) { tmps := (ps.zip (encs x)).foldl (fun t (p, v) => t.setIfInBounds p v) a.tmps, defers := [] } W)
    (hbody : ∀ (l : Nat) (pre : List α) (x : α) (W : World), I pre W → pre ++ [x] <+: L → body.wpIn (F.inRound l) (n - 1 - 1) P (ownPostG w.heap.size Kp I Ix (pre ++ [x]) W) (a₁ x) W)
    (hdone : ∀ (D : Nat) (W : World), w.heap.size ≤ D → I L W → W.heap[D]? = some (.deferred (some [])) → Q .normal { a with defers := { target := .collected D, args := #[] } :: a.defers } W)
    (hstop : ∀ (D : Nat) (c : Code) (pre : List α) (W : World), w.heap.size ≤ D → pre <+: L → Ix c pre W → W.heap[D]? = some (.deferred (some [])) → c.wpIn F n P Q { a with defers := { target := .collected D, args := #[] } :: a.defers } W) :
    (Code.rangeFunc g ps assign body).wpIn F n P Q a w := by
  refine wpIn_rangeFunc (fun fn hfn => ?_)
  rw [hro]
  obtain ⟨mk, hmk⟩ : ∃ mk : LoopState → Option Code → Loop, mk = fun st pe => { state := st, pending := pe, fn, tmps := a.tmps, params := ps, assign, body, defers := w.heap.size } := ⟨_, rfl⟩
  have hms : ∀ st pe, (mk st pe).state = st ∧ (mk st pe).params = ps ∧ (mk st pe).pending = pe := fun st pe => by rw [hmk]; exact ⟨rfl, rfl, rfl⟩
  obtain ⟨k, hk⟩ : ∃ k, k = w.heap.size := ⟨_, rfl⟩
  obtain ⟨W1, hW1⟩ : ∃ W1, W1 = (w.alloc (.deferred (some []))).alloc (.loop (mk .ready none)) := ⟨_, rfl⟩
  have hL1 : LoopAt k (mk .ready none) W1 := by
    rw [hW1, hk]
    refine ⟨alloc_blk (World.alloc_heap_new w _) _, ?_⟩
    have := World.alloc_heap_new (w.alloc (.deferred (some []))) (.loop (mk .ready none))
    simpa using this
  have hs1 : W1.heap.size = k + 1 + 1 := by rw [hW1, hk]; simp
  have hI1 : I [] W1 := by rw [hW1]; exact hI.alloc _ (hI.alloc _ h0)
  have hb1 : Below w0.heap.size w0 W1 := by
    rw [hW1]
    exact hb0.trans ((((Below.refl _ w).alloc (Nat.le_refl _) _).alloc (by simp) _).mono hb0.size)
  have wide : ∀ {β : Type} {J : β → World → Prop}, AbideT T w.heap.size J → AbideT T W1.heap.size J := fun hJ s A C hs f => hJ s A C hs ⟨f.os, f.tape, f.output, f.size, fun b o hb ho => f.block b o hb (ho.imp (fun x => by omega) id)⟩
  have hputI : ∀ {s : List α} {A : World} {r r' : Loop}, I s A → LoopAt k r A → I s (A.putObj (k + 1) (.loop r')) := fun hs hl => hI.putObj _ hs (by omega) hl.r rfl
  have hputX : ∀ {c : Code} {s : List α} {A : World} {r r' : Loop}, Ix c s A → LoopAt k r A → Ix c s (A.putObj (k + 1) (.loop r')) := fun hs hl => (hIx _).putObj _ hs (by omega) hl.r rfl
  refine ⟨k + 1, [{ target := .collected k, args := #[] }], W1, { target := .fn (.func gf) lb, args := #[.func (.yield (k + 1)) #[] #[]] }, W1, gf, #[.func (.yield (k + 1)) #[] #[]] ++ lb, W1, ?_, ?_, ?_, ?_, fun _ => h1, ?_⟩
  · rw [hW1, hmk, hk]; exact run_enterLoop_outer _ _ _ _ _
  · simp only [resolve, hg]
    simp [go_sem]
  · intro f' hf'
    simp [Target.leads] at hf'
    subst hf'
    exact hFg
  · simp [invoke, go_sem, eg]
  refine (hseq (k + 1) (fun pre W => I pre W ∧ LoopAt k (mk .ready none) W) (fun pre W => ∃ c, Ix c pre W ∧ LoopAt k (mk .done (some c)) W) W1 hb1
    (fun s A C hs f => ⟨wide hIT s A C hs.1 f, hs.2.frt f⟩) (fun s A C hs f => let ⟨c, h, hl⟩ := hs; ⟨c, wide (hIxT c) s A C h f, hl.frt f⟩) ?_ ⟨hI1, hL1⟩).mono ?_
  · rintro pre x W ⟨hi, hl⟩ hpre
    have hy := run_yield (P := P) (args := encs x) hl.r (by rw [(hms _ _).2.1]; exact hps x)
    rw [hmk] at hy
    refine ⟨fn, _, assign, body, hy, roundIn_of_wpIn hfn (hassign _ x W _ ⟨_, run_beginRound hl.r (hms _ _).1, ?_⟩)⟩
    have e1 : ({ mk .ready none with state := .busy } : Loop) = mk .busy none := by rw [hmk]
    rw [e1]
    have hl2 := hl.put (mk .busy none)
    have hk2 : Kp W (W.putObj (k + 1) (.loop (mk .busy none))) := hKb _ _ _ _ (by omega) hl.r rfl rfl
    refine wpIn_mono (hbody _ pre x _ (hputI hi hl) hpre) ?_
    have away : ∀ (c : Code) (W3 : World), KeepsFrom w.heap.size (W.putObj (k + 1) (.loop (mk .busy none))) W3 → Ix c (pre ++ [x]) W3 →
        ∃ v w', (Instr.endRound (k + 1) (some c)).run P W3 = .ok v w' ∧ ((Ending.returned v = .returned (.bool true) ∧ (I (pre ++ [x]) w' ∧ LoopAt k (mk .ready none) w') ∧ Kp W w') ∨ (Ending.returned v = .returned (.bool false) ∧ ∃ c, Ix c (pre ++ [x]) w' ∧ LoopAt k (mk .done (some c)) w')) := fun c W3 hkf hx3 => by
      have hl3 := hl2.from hkf (by omega)
      have hr : (Instr.endRound (k + 1) (some c)).run P W3 = .ok (.bool false) (W3.putObj (k + 1) (.loop (mk .done (some c)))) := by
        rw [run_endRound (P := P) (some c) hl3.r, hmk]; rfl
      exact ⟨_, _, hr, .inr ⟨rfl, c, hputX hx3 hl3, hl3.put _⟩⟩
    rintro e a3 W3 hp
    cases e with
    | normal =>
      obtain ⟨hkf, hkp, hi3⟩ := hp
      have hl3 := hl2.from hkf (by omega)
      have hr : (Instr.endRound (k + 1) none).run P W3 = .ok (.bool true) (W3.putObj (k + 1) (.loop (mk .ready none))) := by
        rw [run_endRound (P := P) none hl3.r, hmk]; rfl
      exact ⟨_, _, hr, .inl ⟨rfl, ⟨hputI hi3 hl3, hl3.put _⟩, hKt (hKt hk2 hkp) (hKb _ _ _ _ (by omega) hl3.r rfl rfl)⟩⟩
    | ret => exact away _ W3 hp.1 hp.2
    | exit id => exact away _ W3 hp.1 hp.2
    | goto t => exact away _ W3 hp.1 hp.2
    | panic ch => exact hp.elim
    | outgrown => exact hp.elim
  · rintro e W2 ⟨⟨v, rfl⟩, (⟨hi, hl⟩ | ⟨pre, hpre, c, hx, hl⟩)⟩
    · have hr := run_endLoop (P := P) hl.r (by rw [(hms _ _).1]; simp)
      rw [(hms _ _).2.2] at hr
      exact ⟨none, _, hr, hdone k _ (by omega) (hputI hi hl) (hl.put _).d⟩
    · have hr := run_endLoop (P := P) hl.r (by rw [(hms _ _).1]; simp)
      rw [(hms _ _).2.2] at hr
      exact ⟨some c, _, hr, hstop k c pre _ (by omega) hpre (hputX hx hl) (hl.put _).d⟩
end Go.Proofs.YtelhnaphkbpakaaDoor

namespace Go.Proofs.YtelhnaphkbpakaaDoor
open Go.RowKit Go.Shelf
attribute [local go_sem] Oper.semAt_some
set_option linter.unusedVariables false
set_option maxRecDepth 100000

/-- What a round keeps: all that lay below n0; boxes of handles, boxes of trees. -/
structure KpD (n0 : Nat) (W W' : World) : Prop where
  below : Below n0 W W'
  box : ∀ (k : Nat) (c : Array Value) (t : TypeId) (fz : Nat × Nat), t = 31 ∨ t = 25 → W.heap[k]? = some (.cells c t fz) → W'.heap[k]? = some (.cells c t fz)
theorem KpD.trans {n0 : Nat} {A B C : World} (h : KpD n0 A B) (k : KpD n0 B C) : KpD n0 A C := ⟨h.below.trans k.below, fun i c t fz ht e => k.box i c t fz ht (h.box i c t fz ht e)⟩
theorem KpD.refl (n0 : Nat) (W : World) : KpD n0 W W := ⟨Below.refl _ _, fun _ _ _ _ _ e => e⟩
theorem kpD_b {n0 : Nat} {w : World} (hn : n0 ≤ w.heap.size) (W : World) (l : Nat) (o o' : Obj) (hl : w.heap.size ≤ l) (h : W.heap[l]? = some o) (h1 : o.isCells = false) (h2 : o.isWalk = false) : KpD n0 W (W.putObj l o') :=
  ⟨belowK_b hn W l o o' hl h h1 h2, fun k c t fz _ e => (World.putObj_heap_other (fun e1 => by subst e1; rw [h] at e; cases e; cases h1)).trans e⟩
def encK (F : For) (k : Nat) : Array Value := #[.agg #[.int .u32 ((hd F (some k)).1 : Int), .int .u32 ((hd F (some k)).2 : Int)]]
theorem preD_live {F : For} (ok : FOk F) : ∀ r, r < F.length → (∃ x : FN, F[r]? = some x ∧ x.live = true) → ∀ m ∈ preD F r, ∃ x : FN, F[m]? = some x ∧ x.live = true := by
  refine ok.kids_ind (fun r hr ih hl m hm => ?_)
  rw [preD_eq ok hr] at hm
  rcases List.mem_cons.1 hm with rfl | hm
  · exact hl
  · obtain ⟨c, hc, hm⟩ := List.mem_flatMap.1 hm
    refine ih c hc ?_ m hm
    obtain ⟨y, hy, _⟩ := hl
    have hc2 : c ∈ y.down := by unfold dnOf at hc; rw [show (some r).bind (fun k => F[k]?) = some y from hy] at hc; exact hc
    obtain ⟨x, hx, _, hxl⟩ := ok.dn r y hy c hc2
    exact ⟨x, hx, hxl⟩

/-- What holds at the head of a round of the closure. -/
structure DnR (F : For) (L : List Nat) (n0 B0 Bt Bh tb sr gr : Nat) (w0 : World) (J : List Nat → World → Prop) (n : Nat) (W : World) (b : Nat) (pre rest : List Nat) : Prop where
  len : rest.length = n
  all : L = pre ++ rest
  j : J pre W
  low : Below w0.heap.size w0 W
  new : B0 ≤ b ∧ B0 ≤ W.heap.size
  box : W.heap[b]? = some (.cells #[.int .u32 ((hd F rest.head?).1 : Int), .int .u32 ((hd F rest.head?).2 : Int)] 31 (0, 0))
  bt : W.heap[Bt]? = some (.cells #[.pointer (some ⟨tb, 0, none⟩)] 25 (0, 0))
  bh : W.heap[Bh]? = some (.cells #[.int .u32 (sr : Int), .int .u32 (gr : Int)] 31 (0, 0))

section
variable {B : Nat} {Q : Nat → Prop} {w w0 : World} {tb : Nat} {X : TX}
set_option maxHeartbeats 8000000 in
theorem down1_seq (h : TreeAt B Q w0 tb X) (hz : NoneAt w0) {r : Nat} {xr : FN} (hr : X.F[r]? = some xr) (hrl : xr.live = true) (n : Nat) (hn : 1 ≤ n) {Bt Bh : Nat} (hB : Below w0.heap.size w0 w)
    (hBt : w.heap[Bt]? = some (.cells #[.pointer (some ⟨tb, 0, none⟩)] 25 (0, 0))) (hBh : w.heap[Bh]? = some (.cells #[.int .u32 (xr.sl : Int), .int .u32 (xr.gn : Int)] 31 (0, 0))) :
    SeqT [31] Fence.wide n Tryd.prog 56 #[.pointer (some ⟨Bt, 0, none⟩), .pointer (some ⟨Bh, 0, none⟩)] (encK X.F) (KpD w0.heap.size) (preD X.F r) w := by
  intro l J Jx W hW hJ hJx hY h0
  have ok := h.fok
  have hrlen := (List.getElem?_eq_some_iff.1 hr).1
  obtain ⟨nba, Pa, hma, hata, hsla, hs2a, hg2a⟩ := h.rw.at_live hr hrl
  have HT := Lib.hid h
  have HZ := Lib.hid hz
  have HY := Lib.hid hY
  have HJ := Lib.hid hJ
  have HLV : Hid (∀ m ∈ preD X.F r, ∃ x : FN, X.F[m]? = some x ∧ x.live = true) := Lib.hid (preD_live ok r hrlen ⟨xr, hr, hrl⟩)
  have HNEXT : Hid (∀ pre k rest, preD X.F r = pre ++ k :: rest → ∃ xk l, X.F[k]? = some xk ∧ xk.live = true ∧ Chain X.F k l ∧ rest.head? = stepO X.F r k l) := Lib.hid (fun pre k rest e => by
    obtain ⟨xk, hk, hkl⟩ := HLV.out k (by rw [e]; simp)
    obtain ⟨l, hl⟩ := ok.acyc k xk hk
    exact ⟨xk, l, hk, hkl, hl, step_next ok r hrlen e hl⟩)
  have HLI : Hid (∀ W1 gb, Below w0.heap.size w0 W1 → HRow W1 gb [(xr.sl, xr.gn)] → Calls Tryd.prog 40 #[.pointer (some ⟨tb, 0, none⟩), .slice (some ⟨gb, 0, none⟩) 1 1] W1 fun e w' => e = .returned (.int .i64 0) ∧ Below W1.heap.size W1 w') := Lib.hid (fun W1 gb b hr1 => lives_calls (h.rw.below b) hr1 (by simp) (.inl ⟨rfl, by
    intro p hp
    obtain rfl := List.mem_singleton.1 hp
    exact ⟨r, xr, hr, hrl, rfl, rfl⟩⟩))
  have HHR : Hid (∀ W1 gb, W1.heap[gb]? = some (.cells #[.int .u32 (xr.sl : Int), .int .u32 (xr.gn : Int)] 31 (0, 0)) → HRow W1 gb [(xr.sl, xr.gn)]) := Lib.hid (fun W1 gb hgb => ⟨fun j p hp => by
    match j, hp with
    | 0, hp => cases hp; exact ⟨cell_blk hgb 0 rfl, cell_blk hgb 1 rfl⟩
    | j + 1, hp => simp at hp, by
    intro p hp
    obtain rfl := List.mem_singleton.1 hp; exact ⟨by simp only; omega, by simp only; omega⟩⟩)
  have HST : Hid (∀ W1, Below w0.heap.size w0 W1 → ∀ k xk l, X.F[k]? = some xk → xk.live = true → Chain X.F k l → Calls Tryd.prog 48 #[.pointer (some ⟨tb, 0, none⟩), .agg #[.int .u32 (xk.sl : Int), .int .u32 (xk.gn : Int)], .agg #[.int .u32 (xr.sl : Int), .int .u32 (xr.gn : Int)]] W1 fun e w' => e = .returned (.agg #[.int .u32 ((hd X.F (stepO X.F r k l)).1 : Int), .int .u32 ((hd X.F (stepO X.F r k l)).2 : Int)]) ∧ Below W1.heap.size W1 w') := Lib.hid (fun W1 b k xk l hk hkl hl => stepT_calls (h.below b) (hz.below b) hk hkl hr hrl hl)
  have hhead : (preD X.F r).head? = some r := by obtain ⟨t, ht⟩ := preD_head ok hrlen; rw [ht]; rfl
  have HHD : Hid (hd X.F (preD X.F r).head? = (xr.sl, xr.gn)) := Lib.hid (by rw [hhead]; exact hd_some hr)
  have bt0 := (hW.block _ (lt_of_some hBt)).trans hBt
  have bh0 := (hW.block _ (lt_of_some hBh)).trans hBh
  have bW := hB.trans (hW.mono hB.size)
  have HW0 := Lib.hid (And.intro bt0 (And.intro bh0 (And.intro bW h0)))
  have HRB : Hid (xr.sl ≤ 4294967295 ∧ 1 ≤ xr.sl) := Lib.hid ⟨by omega, by omega⟩
  have c0 := cell_blk bt0 0 rfl
  have c1 := cell_blk bh0 0 rfl
  have c2 := cell_blk bh0 1 rfl
  have lbt := lt_of_some bt0
  have lbh := lt_of_some bh0
  simp at c0 c1 c2
  clear h hz hr hrl hB hBt hBh hW hJ hJx hY h0 hma hata hsla hs2a hg2a ok hhead bt0 bh0 bW
  generalize xr.sl = sr at *
  generalize xr.gn = gr at *
  have hro : Fence.wide.round = none := rfl
  refine callsIn_of_wp Tryd.func56 rfl trivial ?_ rfl
  simp only [Tryd.ntmps56, List.size_toArray, List.length_cons, List.length_nil, Nat.reduceAdd, Nat.reduceSub, Array.replicate_succ, Array.replicate_zero, List.push_toArray, List.append_toArray, List.nil_append, List.cons_append]
  have HLC : Hid (Calls Tryd.prog 40 #[.pointer (some ⟨tb, 0, none⟩), .slice (some ⟨W.heap.size, 0, none⟩) 1 1] (W.alloc (.cells #[.int .u32 (sr : Int), .int .u32 (gr : Int)] 31)) fun e w' => e = .returned (.int .i64 0) ∧ Below (W.alloc (.cells #[.int .u32 (sr : Int), .int .u32 (gr : Int)] 31)).heap.size (W.alloc (.cells #[.int .u32 (sr : Int), .int .u32 (gr : Int)] 31)) w') := Lib.hid (HLI.out _ _ (HW0.out.2.2.1.alloc HW0.out.2.2.1.size _) (HHR.out _ _ (Go.heap_alloc_new W _)))
  gi_wp2_with (refine ⟨trivial, ?_⟩; gi_at_call 40; refine (callsIn_wide.2 HLC.out).mono ?_; rintro e w1 ⟨rfl, b1⟩; have HB1 := Lib.hid (((Below.refl W.heap.size W).alloc (Nat.le_refl _) _).trans (b1.mono ((Below.refl W.heap.size W).alloc (Nat.le_refl _) _).size)); have d0 := (HB1.out.cell (p := ⟨Bh, 0, none⟩) lbh).trans c1; have d1 := (HB1.out.cell (p := ⟨Bh, 1, none⟩) lbh).trans c2; clear b1)
  have HN0 : Hid (∀ W1, Below w0.heap.size w0 W1 → NoneAt W1) := Lib.hid (fun W1 b => HZ.out.below b)
  clear d0 d1 c0 c1 c2 lbt lbh
  gi_loopg [4] (preD X.F r).length (fun n v wr => ∃ (b : Nat) (pre rest : List Nat), v = .pointer (some ⟨b, 0, none⟩) ∧ Hid (DnR X.F (preD X.F r) w0.heap.size W.heap.size Bt Bh tb sr gr w0 J n wr b pre rest))
  case atStart =>
    have hbel : Below W.heap.size W (w1.alloc (.cells #[.int .u32 (sr : Int), .int .u32 (gr : Int)] 31)) := HB1.out.alloc HB1.out.size _
    exact ⟨w1.heap.size, [], preD X.F r, rfl, Lib.hid ⟨rfl, rfl, HJ.out [] W _ HW0.out.2.2.2 (FrT.of_below hbel), HW0.out.2.2.1.trans (hbel.mono HW0.out.2.2.1.size), ⟨HB1.out.size, hbel.size⟩, by rw [HHD.out]; exact Go.heap_alloc_new w1 _, (hbel.block _ (lt_of_some HW0.out.1)).trans HW0.out.1, (hbel.block _ (lt_of_some HW0.out.2.1)).trans HW0.out.2.1⟩⟩
  case round =>
    obtain ⟨b, pre, rest, rfl, hw⟩ := hrel
    have x0 := cell_blk hw.out.box 0 rfl
    have x1 := cell_blk hw.out.box 1 rfl
    have n0 := (HN0.out wr hw.out.low).a
    have n1 := (HN0.out wr hw.out.low).b
    cases rest with
    | nil =>
      replace x0 : wr.cell? ⟨b, 0, none⟩ = some (.int .u32 0) := x0
      replace x1 : wr.cell? ⟨b, 1, none⟩ = some (.int .u32 0) := x1
      have q0 : hEq 0 0 0 0 = true := hEq_true rfl rfl
      have HE : Hid (J (preD X.F r) wr) := Lib.hid (by have := hw.out.all; rw [List.append_nil] at this; rw [this]; exact hw.out.j)
      gi_wp2
      refine ⟨fun _ h => (by cases h), ?_⟩
      gi_wp2
      go_end0
      exact ⟨⟨_, rfl⟩, .inl HE.out⟩
    | cons k rest' =>
      obtain ⟨xk, lk, hk, hkl, hlk, hnx⟩ := HNEXT.out pre k rest' hw.out.all
      obtain ⟨nb, P, hm, hat, hsl, hs2, hg2⟩ := HT.out.rw.at_live hk hkl
      have e := hd_some hk
      replace x0 : wr.cell? ⟨b, 0, none⟩ = some (.int .u32 (xk.sl : Int)) := by have := x0; rw [show hd X.F (k :: rest').head? = (xk.sl, xk.gn) from e] at this; exact this
      replace x1 : wr.cell? ⟨b, 1, none⟩ = some (.int .u32 (xk.gn : Int)) := by have := x1; rw [show hd X.F (k :: rest').head? = (xk.sl, xk.gn) from e] at this; exact this
      have q0 : hEq (xk.sl : Int) (xk.gn : Int) 0 0 = false := hEq_false (.inl (by omega))
      have hpf : pre ++ [k] <+: preD X.F r := ⟨rest', by rw [hw.out.all]; simp⟩
      obtain ⟨fn, tmps, assign, body, hy, hR⟩ := HY.out pre k wr hw.out.j hpf
      unfold encK at hy
      rw [e] at hy
      simp only at hy
      have HSTK : Hid (∀ W1, Below w0.heap.size w0 W1 → Calls Tryd.prog 48 #[.pointer (some ⟨tb, 0, none⟩), .agg #[.int .u32 (xk.sl : Int), .int .u32 (xk.gn : Int)], .agg #[.int .u32 (sr : Int), .int .u32 (gr : Int)]] W1 fun e w' => e = .returned (.agg #[.int .u32 ((hd X.F rest'.head?).1 : Int), .int .u32 ((hd X.F rest'.head?).2 : Int)]) ∧ Below W1.heap.size W1 w') := Lib.hid (fun W1 b => by rw [hnx]; exact HST.out W1 b k xk lk hk hkl hlk)
      have HALL : Hid (preD X.F r = (pre ++ [k]) ++ rest') := Lib.hid (by rw [hw.out.all]; simp)
      have HPF := Lib.hid hpf
      have HM : Hid (rest'.length < gk) := Lib.hid (by have := hw.out.len; rw [← this]; simp)
      have HE := Lib.hid e
      clear hk hkl hlk hnx e hm hat hsl hs2 hg2 hpf
      gi_wp2
      refine hR.mono ?_
      rintro e W3 (⟨rfl, hJ3, hk3⟩ | ⟨rfl, hJx3⟩)
      · have hbx3 := hk3.box _ _ _ _ (.inl rfl) hw.out.box
        have hbt3 := hk3.box _ _ _ _ (.inr rfl) hw.out.bt
        have hbh3 := hk3.box _ _ _ _ (.inl rfl) hw.out.bh
        have HLO3 := Lib.hid (hw.out.low.trans hk3.below)
        have H3 := Lib.hid (And.intro hbx3 (And.intro hbt3 (And.intro hbh3 hJ3)))
        have y0 := cell_blk hbx3 0 rfl
        have y1 := cell_blk hbx3 1 rfl
        have t0 := cell_blk hbt3 0 rfl
        have r0 := cell_blk hbh3 0 rfl
        have r1 := cell_blk hbh3 1 rfl
        rw [show hd X.F (k :: rest').head? = (xk.sl, xk.gn) from HE.out] at y0 y1
        have hn1 := hw.out.new
        have HNW := Lib.hid hn1
        have HNW3 : Hid (W.heap.size ≤ W3.heap.size) := Lib.hid (Nat.le_trans hn1.2 hk3.below.size)
        clear hbx3 hbt3 hbh3 hJ3 hk3 hn1
        gi_wp2_with (refine ⟨trivial, ?_⟩; gi_at_call 48; refine (callsIn_wide.2 (HSTK.out W3 HLO3.out)).mono ?_; rintro e w4 ⟨rfl, b4⟩; have hbx4 := (b4.block _ (lt_of_some H3.out.1)).trans H3.out.1; have z0 := cell_blk hbx4 0 rfl; have z1 := cell_blk hbx4 1 rfl; have f0 := free_blk hbx4 0; have f1 := free_blk hbx4 1; have lz := lt_of_some hbx4; have H4 := Lib.hid (And.intro hbx4 b4); clear hbx4 b4)
        gi_roundg rest'.length
        case measure => exact HM.out
        case rel =>
          have frt : ∀ u v c, FrT [31] W.heap.size W3 (((w4.setCell ⟨b, 0, none⟩ u).setCell ⟨b, 1, none⟩ v).alloc c) := fun u v c => (((FrT.of_below H4.out.2).set (a := ⟨b, 0, none⟩) HNW.out.1 H4.out.1 (List.mem_singleton.2 rfl) u).set (a := ⟨b, 1, none⟩) HNW.out.1 (set_blk H4.out.1 0 u) (List.mem_singleton.2 rfl) v).alloc c
          have hlo : ∀ u v c, Below w0.heap.size w0 (((w4.setCell ⟨b, 0, none⟩ u).setCell ⟨b, 1, none⟩ v).alloc c) := fun u v c => by
            have h1 := HW0.out.2.2.1.size
            have h2 := HNW.out.1
            have h3 := HLO3.out.size
            have h4 := H4.out.2.size
            exact (((HLO3.out.trans (H4.out.2.mono h3)).setCell (by show w0.heap.size ≤ b; omega) u).setCell (by show w0.heap.size ≤ b; omega) v).alloc (by simp; omega) c
          refine ⟨w4.heap.size, pre ++ [k], rest', rfl, Lib.hid ⟨rfl, HALL.out, HJ.out _ W3 _ H3.out.2.2.2 (frt _ _ _), hlo _ _ _, ⟨?_, ?_⟩, ?_, (frt _ _ _).block _ _ H3.out.2.1 (.inr (fun e he => by cases he; decide)), (frt _ _ _).block _ _ H3.out.2.2.1 (.inl (lt_of_some HW0.out.2.1))⟩⟩
          · exact Nat.le_trans HNW3.out H4.out.2.size
          · simp
            have := HNW3.out
            have := H4.out.2.size
            omega
          · have := Go.heap_alloc_new ((w4.setCell ⟨b, 0, none⟩ (.int .u32 ((hd X.F rest'.head?).1 : Int))).setCell ⟨b, 1, none⟩ (.int .u32 ((hd X.F rest'.head?).2 : Int))) (.cells #[.int .u32 ((hd X.F rest'.head?).1 : Int), .int .u32 ((hd X.F rest'.head?).2 : Int)] 31)
            simpa using this
      · have HX3 := Lib.hid hJx3
        clear hJx3
        gi_wp2
        go_end0
        exact ⟨⟨_, rfl⟩, .inr ⟨_, HPF.out, HX3.out⟩⟩
end
end Go.Proofs.YtelhnaphkbpakaaDoor

namespace Go.Proofs.YtelhnaphkbpakaaDoor
open Go.RowKit
set_option linter.unusedVariables false

/-- Only one block that was there may have changed. -/
structure FrB (b : Nat) (w w' : World) : Prop where
  os : w'.os = w.os
  tape : w'.tape = w.tape
  output : w'.output = w.output
  size : w.heap.size ≤ w'.heap.size
  block : ∀ k, k < w.heap.size → k ≠ b → w'.heap[k]? = w.heap[k]?
theorem FrB.of_below {b : Nat} {w w' : World} (h : Below w.heap.size w w') : FrB b w w' := ⟨h.os, h.tape, h.output, h.size, fun k hk _ => h.block k hk⟩
theorem FrB.set {w w' : World} {a : Addr} (h : FrB a.block w w') (v : Value) : FrB a.block w (w'.setCell a v) :=
  ⟨h.os, h.tape, h.output, by simpa using h.size, fun k hk hne => by rw [heap_setCell_other _ _ _ _ hne]; exact h.block k hk hne⟩
theorem FrB.alloc {b : Nat} {w w' : World} (h : FrB b w w') (o : Obj) : FrB b w (w'.alloc o) :=
  ⟨h.os, h.tape, h.output, by simp; have := h.size; omega, fun k hk hne => by
    have e : w.heap[k]? = some w.heap[k] := Array.getElem?_eq_getElem hk
    rw [e]
    exact alloc_blk ((h.block k hk hne).trans e) o⟩
theorem FrB.blk {b k : Nat} {w w' : World} {o : Obj} (h : FrB b w w') (hk : w.heap[k]? = some o) (hne : k ≠ b) : w'.heap[k]? = some o := (h.block k (lt_of_some hk) hne).trans hk
theorem FrB.lowB {b n : Nat} {A C : World} (f : FrB b A C) (hn : n ≤ b) (hA : n ≤ A.heap.size) : Below n A C :=
  ⟨f.os, f.tape, f.output, f.size, fun k hk => f.block k (by omega) (by omega)⟩
/-- What is said of a world, and of the closure's box: it stands where that box alone changed, of that box or of a new one. -/
def AbideB {β : Type} (J : Nat → β → World → Prop) : Prop := ∀ b b' s A C, J b s A → FrB b A C → (b' = b ∨ A.heap.size ≤ b' ∧ b' < C.heap.size) → J b' s C
/-- What a closure promises that is ranged over: it tells the elements of a list, one by one; of what was there it changes one box of its own at a time. -/
def SeqB {α : Type} (F : Fence) (n : Nat) (P : Program) (g : Nat) (lb : Array Value) (encs : α → Array Value) (Kp : Nat → World → World → Prop) (L : List α) (w : World) : Prop :=
  ∀ (l : Nat) (J Jx : Nat → List α → World → Prop) (W : World), Below w.heap.size w W → AbideB J → AbideB Jx →
    (∀ b pre x W1, J b pre W1 → pre ++ [x] <+: L → YieldAt F (n - 1) P l (encs x) W1 fun e W' => (e = .returned (.bool true) ∧ J b (pre ++ [x]) W' ∧ Kp b W1 W') ∨ (e = .returned (.bool false) ∧ Jx b (pre ++ [x]) W')) →
    (∀ b C, Below W.heap.size W C → W.heap.size ≤ b → b < C.heap.size → J b [] C) → CallsIn F n P g (#[.func (.yield l) #[] #[]] ++ lb) W fun e W' => (∃ v, e = .returned v) ∧ ((∃ b, J b L W') ∨ ∃ b pre, pre <+: L ∧ Jx b pre W')
theorem LoopAt.frb {k b : Nat} {r : Loop} {A C : World} (h : LoopAt k r A) (f : FrB b A C) (hb : k + 1 < b) : LoopAt k r C :=
  ⟨f.blk h.d (by omega), f.blk h.r (by omega)⟩

theorem range_B {F : Fence} {n : Nat} {P : Program} {α : Type} {g : Operand} {ps : Array Tmp} {assign body : Code} {Q : Exit → Act → World → Prop} {a : Act} {w : World}
    (hro : F.round = none) (h1 : 1 ≤ n) {gf : Nat} {lb : Array Value} (hg : a.eval g = .func (.func gf) #[] lb) (hFg : F.fn gf) (eg : ∀ args w, (callFunc gf args).run P w = .ok (.enter gf args) w)
    {encs : α → Array Value} {Kp : Nat → World → World → Prop} {L : List α} {w0 : World} (hseq : SeqB F (n - 1) P gf lb encs Kp L w0)
    (hKt : ∀ {b : Nat} {A B C : World}, Kp b A B → Kp b B C → Kp b A C) (hKb : ∀ (b : Nat) (W : World) (k : Nat) (o o' : Obj), w.heap.size ≤ k → W.heap[k]? = some o → o.isCells = false → o.isWalk = false → Kp b W (W.putObj k o')) (hb0 : Below w0.heap.size w0 w) (hps : ∀ x, (encs x).size = ps.size)
    (I : Nat → List α → World → Prop) (Ix : Code → Nat → List α → World → Prop) (hI : ∀ b, OwnFrom w.heap.size (I b)) (hIx : ∀ c b, OwnFrom w.heap.size (Ix c b)) (hIB : AbideB I) (hIxB : ∀ c, AbideB (Ix c)) (h0 : ∀ b C, Below w.heap.size w C → w.heap.size + 1 < b → b < C.heap.size → I b [] C) (Ax : α → Act → World → Prop) (hAx : ∀ x a', OwnFrom w.heap.size (fun (_ : Unit) W => Ax x a' W))
    (hassign : ∀ (l b : Nat) (pre : List α) (x : α) (W : World) (K : Act → World → Prop), w.heap.size + 1 < b → b < W.heap.size → I b pre W → (∀ a' W', KeepsFrom w.heap.size W W' → Kp b W W' → I b pre W' → Ax x a' W' → K a' W') →
      assign.wpIn (F.inRound l) (n - 1 - 1) P (Exit.then K (fun _ _ _ => False)) { tmps := (ps.zip (encs x)).foldl (fun t (p, v) => t.setIfInBounds p v) a.tmps, defers := [] } W)
    (hbody : ∀ (l b : Nat) (pre : List α) (x : α) (a' : Act) (W : World), w.heap.size + 1 < b → b < W.heap.size → I b pre W → Ax x a' W → pre ++ [x] <+: L → body.wpIn (F.inRound l) (n - 1 - 1) P (ownPostG w.heap.size (Kp b) (I b) (fun c => Ix c b) (pre ++ [x]) W) a' W)
    (hdone : ∀ (D b : Nat) (W : World), w.heap.size ≤ D → I b L W → W.heap[D]? = some (.deferred (some [])) → Q .normal { a with defers := { target := .collected D, args := #[] } :: a.defers } W)
    (hstop : ∀ (D b : Nat) (c : Code) (pre : List α) (W : World), w.heap.size ≤ D → pre <+: L → Ix c b pre W → W.heap[D]? = some (.deferred (some [])) → c.wpIn F n P Q { a with defers := { target := .collected D, args := #[] } :: a.defers } W) :
    (Code.rangeFunc g ps assign body).wpIn F n P Q a w := by
  refine wpIn_rangeFunc (fun fn hfn => ?_)
  rw [hro]
  obtain ⟨mk, hmk⟩ : ∃ mk : LoopState → Option Code → Loop, mk = fun st pe => { state := st, pending := pe, fn, tmps := a.tmps, params := ps, assign, body, defers := w.heap.size } := ⟨_, rfl⟩
  have hms : ∀ st pe, (mk st pe).state = st ∧ (mk st pe).params = ps ∧ (mk st pe).pending = pe := fun st pe => by rw [hmk]; exact ⟨rfl, rfl, rfl⟩
  obtain ⟨k, hk⟩ : ∃ k, k = w.heap.size := ⟨_, rfl⟩
  obtain ⟨W1, hW1⟩ : ∃ W1, W1 = (w.alloc (.deferred (some []))).alloc (.loop (mk .ready none)) := ⟨_, rfl⟩
  have hL1 : LoopAt k (mk .ready none) W1 := by
    rw [hW1, hk]
    refine ⟨alloc_blk (World.alloc_heap_new w _) _, ?_⟩
    have := World.alloc_heap_new (w.alloc (.deferred (some []))) (.loop (mk .ready none))
    simpa using this
  have hs1 : W1.heap.size = k + 1 + 1 := by rw [hW1, hk]; simp
  have hb01 : Below w.heap.size w W1 := by rw [hW1]; exact ((Below.refl _ w).alloc (Nat.le_refl _) _).alloc (by simp) _
  have hb1 : Below w0.heap.size w0 W1 := by
    rw [hW1]
    exact hb0.trans ((((Below.refl _ w).alloc (Nat.le_refl _) _).alloc (by simp) _).mono hb0.size)
  have hputI : ∀ {b : Nat} {s : List α} {A : World} {r r' : Loop}, I b s A → LoopAt k r A → I b s (A.putObj (k + 1) (.loop r')) := fun hs hl => (hI _).putObj _ hs (by omega) hl.r rfl
  have hputX : ∀ {c : Code} {b : Nat} {s : List α} {A : World} {r r' : Loop}, Ix c b s A → LoopAt k r A → Ix c b s (A.putObj (k + 1) (.loop r')) := fun hs hl => (hIx _ _).putObj _ hs (by omega) hl.r rfl
  refine ⟨k + 1, [{ target := .collected k, args := #[] }], W1, { target := .fn (.func gf) lb, args := #[.func (.yield (k + 1)) #[] #[]] }, W1, gf, #[.func (.yield (k + 1)) #[] #[]] ++ lb, W1, ?_, ?_, ?_, ?_, fun _ => h1, ?_⟩
  · rw [hW1, hmk, hk]; exact run_enterLoop_outer _ _ _ _ _
  · simp only [resolve, hg]
    simp [go_sem]
  · intro f' hf'
    simp [Target.leads] at hf'
    subst hf'
    exact hFg
  · simp [invoke, go_sem, eg]
  refine (hseq (k + 1) (fun b pre W => (k + 1 < b ∧ b < W.heap.size) ∧ I b pre W ∧ LoopAt k (mk .ready none) W) (fun b pre W => k + 1 < b ∧ ∃ c, Ix c b pre W ∧ LoopAt k (mk .done (some c)) W) W1 hb1
    (fun b b' s A C hs f hb' => ⟨⟨by have := hs.1; omega, by have := f.size; have := hs.1; omega⟩, hIB b b' s A C hs.2.1 f hb', hs.2.2.frb f hs.1.1⟩) (fun b b' s A C hs f hb' => let ⟨hb, c, h, hl⟩ := hs; ⟨by have := hl.lt; omega, c, hIxB c b b' s A C h f hb', hl.frb f hb⟩) ?_ (fun b C bC hb hbC => ⟨⟨by omega, hbC⟩, h0 b C (hb01.trans (bC.mono hb01.size)) (by omega) hbC, ⟨(bC.block _ (by omega)).trans hL1.d, (bC.block _ (by omega)).trans hL1.r⟩⟩)).mono ?_
  · rintro b pre x W ⟨hbk, hi, hl⟩ hpre
    have hy := run_yield (P := P) (args := encs x) hl.r (by rw [(hms _ _).2.1]; exact hps x)
    rw [hmk] at hy
    refine ⟨fn, _, assign, body, hy, roundIn_of_wpIn hfn (hassign _ b pre x W _ (by omega) hbk.2 hi (fun a' Wa hkfa hkpa hia hax => ?_))⟩
    clear hy
    replace hl := hl.from hkfa (by omega)
    replace hbk : k + 1 < b ∧ b < Wa.heap.size := ⟨hbk.1, by have := hkfa.size; omega⟩
    replace hi := hia
    clear hia hkfa
    revert hkpa
    generalize W = W00
    intro hkpa
    obtain ⟨W, rfl⟩ : ∃ W, W = Wa := ⟨_, rfl⟩
    refine ⟨_, run_beginRound hl.r (hms _ _).1, ?_⟩
    have e1 : ({ mk .ready none with state := .busy } : Loop) = mk .busy none := by rw [hmk]
    rw [e1]
    have hl2 := hl.put (mk .busy none)
    have hk2 : Kp b W (W.putObj (k + 1) (.loop (mk .busy none))) := hKb _ _ _ _ _ (by omega) hl.r rfl rfl
    have hszp : (W.putObj (k + 1) (.loop (mk .busy none))).heap.size = W.heap.size := by simp [World.putObj]
    refine wpIn_mono (hbody _ b pre x a' _ (by omega) (by omega) (hputI hi hl) ((hAx x a').putObj (s := ()) _ hax (by omega) hl.r rfl) hpre) ?_
    have away : ∀ (c : Code) (W3 : World), KeepsFrom w.heap.size (W.putObj (k + 1) (.loop (mk .busy none))) W3 → Ix c b (pre ++ [x]) W3 →
        ∃ v w', (Instr.endRound (k + 1) (some c)).run P W3 = .ok v w' ∧ ((Ending.returned v = .returned (.bool true) ∧ ((k + 1 < b ∧ b < w'.heap.size) ∧ I b (pre ++ [x]) w' ∧ LoopAt k (mk .ready none) w') ∧ Kp b W00 w') ∨ (Ending.returned v = .returned (.bool false) ∧ k + 1 < b ∧ ∃ c, Ix c b (pre ++ [x]) w' ∧ LoopAt k (mk .done (some c)) w')) := fun c W3 hkf hx3 => by
      have hl3 := hl2.from hkf (by omega)
      have hr : (Instr.endRound (k + 1) (some c)).run P W3 = .ok (.bool false) (W3.putObj (k + 1) (.loop (mk .done (some c)))) := by
        rw [run_endRound (P := P) (some c) hl3.r, hmk]; rfl
      exact ⟨_, _, hr, .inr ⟨rfl, hbk.1, c, hputX hx3 hl3, hl3.put _⟩⟩
    rintro e a3 W3 hp
    cases e with
    | normal =>
      obtain ⟨hkf, hkp, hi3⟩ := hp
      have hl3 := hl2.from hkf (by omega)
      have hr : (Instr.endRound (k + 1) none).run P W3 = .ok (.bool true) (W3.putObj (k + 1) (.loop (mk .ready none))) := by
        rw [run_endRound (P := P) none hl3.r, hmk]; rfl
      exact ⟨_, _, hr, .inl ⟨rfl, ⟨⟨hbk.1, by have := hkf.size; simp only [World.putObj, Array.size_setIfInBounds] at this ⊢; omega⟩, hputI hi3 hl3, hl3.put _⟩, hKt hkpa (hKt (hKt hk2 hkp) (hKb _ _ _ _ _ (by omega) hl3.r rfl rfl))⟩⟩
    | ret => exact away _ W3 hp.1 hp.2
    | exit id => exact away _ W3 hp.1 hp.2
    | goto t => exact away _ W3 hp.1 hp.2
    | panic ch => exact hp.elim
    | outgrown => exact hp.elim
  · rintro e W2 ⟨⟨v, rfl⟩, (⟨b, _, hi, hl⟩ | ⟨b, pre, hpre, _, c, hx, hl⟩)⟩
    · have hr := run_endLoop (P := P) hl.r (by rw [(hms _ _).1]; simp)
      rw [(hms _ _).2.2] at hr
      exact ⟨none, _, hr, hdone k b _ (by omega) (hputI hi hl) (hl.put _).d⟩
    · have hr := run_endLoop (P := P) hl.r (by rw [(hms _ _).1]; simp)
      rw [(hms _ _).2.2] at hr
      exact ⟨some c, _, hr, hstop k b c pre _ (by omega) hpre (hputX hx hl) (hl.put _).d⟩
/-- The loop's variable lies in a box of its own. -/
theorem range_B1 {F : Fence} {n : Nat} {P : Program} {α : Type} {g : Operand} {ps : Array Tmp} {assign body : Code} {Q : Exit → Act → World → Prop} {a : Act} {w : World}
    (hro : F.round = none) (h1 : 1 ≤ n) {gf : Nat} {lb : Array Value} (hg : a.eval g = .func (.func gf) #[] lb) (hFg : F.fn gf) (eg : ∀ args w, (callFunc gf args).run P w = .ok (.enter gf args) w)
    {encs : α → Array Value} {Kp : Nat → World → World → Prop} {L : List α} {w0 : World} (hseq : SeqB F (n - 1) P gf lb encs Kp L w0)
    (hKt : ∀ {b : Nat} {A B C : World}, Kp b A B → Kp b B C → Kp b A C) (hKb : ∀ (b : Nat) (W : World) (k : Nat) (o o' : Obj), w.heap.size ≤ k → W.heap[k]? = some o → o.isCells = false → o.isWalk = false → Kp b W (W.putObj k o')) (hb0 : Below w0.heap.size w0 w) (hps : ∀ x, (encs x).size = ps.size)
    (I : Nat → List α → World → Prop) (Ix : Code → Nat → List α → World → Prop) (hI : ∀ b, OwnFrom w.heap.size (I b)) (hIx : ∀ c b, OwnFrom w.heap.size (Ix c b)) (hIB : AbideB I) (hIxB : ∀ c, AbideB (Ix c)) (h0 : ∀ b C, Below w.heap.size w C → w.heap.size + 1 < b → b < C.heap.size → I b [] C) (slot : Tmp) (cs : α → Array Value) (tB : TypeId)
    (hassign : ∀ (l b : Nat) (pre : List α) (x : α) (W : World) (K : Act → World → Prop), w.heap.size + 1 < b → b < W.heap.size → I b pre W → (∀ xb W', KeepsFrom w.heap.size W W' → Kp b W W' → I b pre W' → W'.heap[xb]? = some (.cells (cs x) tB (0, 0)) → K { tmps := ((ps.zip (encs x)).foldl (fun t (p, v) => t.setIfInBounds p v) a.tmps).setIfInBounds slot (.pointer (some ⟨xb, 0, none⟩)), defers := [] } W') →
      assign.wpIn (F.inRound l) (n - 1 - 1) P (Exit.then K (fun _ _ _ => False)) { tmps := (ps.zip (encs x)).foldl (fun t (p, v) => t.setIfInBounds p v) a.tmps, defers := [] } W)
    (hbody : ∀ (l b : Nat) (pre : List α) (x : α) (xb : Nat) (W : World), w.heap.size + 1 < b → b < W.heap.size → I b pre W → W.heap[xb]? = some (.cells (cs x) tB (0, 0)) → pre ++ [x] <+: L → body.wpIn (F.inRound l) (n - 1 - 1) P (ownPostG w.heap.size (Kp b) (I b) (fun c => Ix c b) (pre ++ [x]) W) { tmps := ((ps.zip (encs x)).foldl (fun t (p, v) => t.setIfInBounds p v) a.tmps).setIfInBounds slot (.pointer (some ⟨xb, 0, none⟩)), defers := [] } W)
    (hdone : ∀ (D b : Nat) (W : World), w.heap.size ≤ D → I b L W → W.heap[D]? = some (.deferred (some [])) → Q .normal { a with defers := { target := .collected D, args := #[] } :: a.defers } W)
    (hstop : ∀ (D b : Nat) (c : Code) (pre : List α) (W : World), w.heap.size ≤ D → pre <+: L → Ix c b pre W → W.heap[D]? = some (.deferred (some [])) → c.wpIn F n P Q { a with defers := { target := .collected D, args := #[] } :: a.defers } W) :
    (Code.rangeFunc g ps assign body).wpIn F n P Q a w :=
  range_B hro h1 hg hFg eg hseq hKt hKb hb0 hps I Ix hI hIx hIB hIxB h0
    (fun x a' W => ∃ xb, W.heap[xb]? = some (.cells (cs x) tB (0, 0)) ∧ a' = { tmps := ((ps.zip (encs x)).foldl (fun t (p, v) => t.setIfInBounds p v) a.tmps).setIfInBounds slot (.pointer (some ⟨xb, 0, none⟩)), defers := [] })
    (fun x a' _ A C row hs hg' hr => by
      obtain ⟨xb, h1, h2⟩ := hs
      refine ⟨xb, (hg'.block _ (lt_of_some h1) (fun e => ?_)).trans h1, h2⟩
      obtain ⟨_, o, ho, hc⟩ := hr _ e.symm
      rw [h1] at ho
      cases ho
      cases hc)
    (fun l b pre x W K h1 h2 hi hK => hassign l b pre x W K h1 h2 hi (fun xb W' k1 k2 k3 k4 => hK _ _ k1 k2 k3 ⟨xb, k4, rfl⟩))
    (fun l b pre x a' W h1 h2 hi hax hp => by obtain ⟨xb, h3, rfl⟩ := hax; exact hbody l b pre x xb W h1 h2 hi h3 hp)
    hdone hstop
end Go.Proofs.YtelhnaphkbpakaaDoor

namespace Go.Proofs.YtelhnaphkbpakaaDoor
open Go.RowKit Go.Shelf
attribute [local go_sem] Oper.semAt_some
set_option linter.unusedVariables false
set_option maxRecDepth 100000

/-- What a round keeps: all that lay below n0; the closure's boxes. -/
structure KpS (n0 Bt Bh b : Nat) (W W' : World) : Prop where
  below : Below n0 W W'
  box : ∀ (k : Nat) (c : Array Value) (t : TypeId) (fz : Nat × Nat), (k = b ∨ k = Bt ∨ k = Bh) → W.heap[k]? = some (.cells c t fz) → W'.heap[k]? = some (.cells c t fz)
theorem KpS.trans {n0 Bt Bh b : Nat} {A B C : World} (h : KpS n0 Bt Bh b A B) (k : KpS n0 Bt Bh b B C) : KpS n0 Bt Bh b A C := ⟨h.below.trans k.below, fun i c t fz ht e => k.box i c t fz ht (h.box i c t fz ht e)⟩
theorem kpS_b {n0 Bt Bh : Nat} {w : World} (hn : n0 ≤ w.heap.size) (b : Nat) (W : World) (l : Nat) (o o' : Obj) (hl : w.heap.size ≤ l) (h : W.heap[l]? = some o) (h1 : o.isCells = false) (h2 : o.isWalk = false) : KpS n0 Bt Bh b W (W.putObj l o') :=
  ⟨belowK_b hn W l o o' hl h h1 h2, fun k c t fz _ e => (World.putObj_heap_other (fun e1 => by subst e1; rw [h] at e; cases e; cases h1)).trans e⟩

/-- What holds at the head of a round of the closure. -/
structure DnB (F : For) (L : List Nat) (n0 B0 Bt Bh tb sr gr : Nat) (w0 : World) (J : Nat → List Nat → World → Prop) (n : Nat) (W : World) (b : Nat) (pre rest : List Nat) : Prop where
  len : rest.length = n
  all : L = pre ++ rest
  j : J b pre W
  low : Below w0.heap.size w0 W
  new : B0 ≤ b ∧ B0 ≤ W.heap.size
  box : W.heap[b]? = some (.cells #[.int .u32 ((hd F rest.head?).1 : Int), .int .u32 ((hd F rest.head?).2 : Int)] 31 (0, 0))
  bt : W.heap[Bt]? = some (.cells #[.pointer (some ⟨tb, 0, none⟩)] 25 (0, 0))
  bh : W.heap[Bh]? = some (.cells #[.int .u32 (sr : Int), .int .u32 (gr : Int)] 31 (0, 0))

section
variable {B : Nat} {Q : Nat → Prop} {w w0 : World} {tb : Nat} {X : TX}
set_option maxHeartbeats 8000000 in
theorem down1_seqB (h : TreeAt B Q w0 tb X) (hz : NoneAt w0) {r : Nat} {xr : FN} (hr : X.F[r]? = some xr) (hrl : xr.live = true) (n : Nat) (hn : 1 ≤ n) {Bt Bh : Nat} (hB : Below w0.heap.size w0 w)
    (hBt : w.heap[Bt]? = some (.cells #[.pointer (some ⟨tb, 0, none⟩)] 25 (0, 0))) (hBh : w.heap[Bh]? = some (.cells #[.int .u32 (xr.sl : Int), .int .u32 (xr.gn : Int)] 31 (0, 0))) :
    SeqB Fence.wide n Tryd.prog 56 #[.pointer (some ⟨Bt, 0, none⟩), .pointer (some ⟨Bh, 0, none⟩)] (encK X.F) (KpS w0.heap.size Bt Bh) (preD X.F r) w := by
  intro l J Jx W hW hJ hJx hY h0
  have ok := h.fok
  have hrlen := (List.getElem?_eq_some_iff.1 hr).1
  obtain ⟨nba, Pa, hma, hata, hsla, hs2a, hg2a⟩ := h.rw.at_live hr hrl
  have HT := Lib.hid h
  have HZ := Lib.hid hz
  have HY := Lib.hid hY
  have HJ := Lib.hid hJ
  have HLV : Hid (∀ m ∈ preD X.F r, ∃ x : FN, X.F[m]? = some x ∧ x.live = true) := Lib.hid (preD_live ok r hrlen ⟨xr, hr, hrl⟩)
  have HNEXT : Hid (∀ pre k rest, preD X.F r = pre ++ k :: rest → ∃ xk l, X.F[k]? = some xk ∧ xk.live = true ∧ Chain X.F k l ∧ rest.head? = stepO X.F r k l) := Lib.hid (fun pre k rest e => by
    obtain ⟨xk, hk, hkl⟩ := HLV.out k (by rw [e]; simp)
    obtain ⟨l, hl⟩ := ok.acyc k xk hk
    exact ⟨xk, l, hk, hkl, hl, step_next ok r hrlen e hl⟩)
  have HLI : Hid (∀ W1 gb, Below w0.heap.size w0 W1 → HRow W1 gb [(xr.sl, xr.gn)] → Calls Tryd.prog 40 #[.pointer (some ⟨tb, 0, none⟩), .slice (some ⟨gb, 0, none⟩) 1 1] W1 fun e w' => e = .returned (.int .i64 0) ∧ Below W1.heap.size W1 w') := Lib.hid (fun W1 gb b hr1 => lives_calls (h.rw.below b) hr1 (by simp) (.inl ⟨rfl, by
    intro p hp
    obtain rfl := List.mem_singleton.1 hp
    exact ⟨r, xr, hr, hrl, rfl, rfl⟩⟩))
  have HHR : Hid (∀ W1 gb, W1.heap[gb]? = some (.cells #[.int .u32 (xr.sl : Int), .int .u32 (xr.gn : Int)] 31 (0, 0)) → HRow W1 gb [(xr.sl, xr.gn)]) := Lib.hid (fun W1 gb hgb => ⟨fun j p hp => by
    match j, hp with
    | 0, hp => cases hp; exact ⟨cell_blk hgb 0 rfl, cell_blk hgb 1 rfl⟩
    | j + 1, hp => simp at hp, by
    intro p hp
    obtain rfl := List.mem_singleton.1 hp; exact ⟨by simp only; omega, by simp only; omega⟩⟩)
  have HST : Hid (∀ W1, Below w0.heap.size w0 W1 → ∀ k xk l, X.F[k]? = some xk → xk.live = true → Chain X.F k l → Calls Tryd.prog 48 #[.pointer (some ⟨tb, 0, none⟩), .agg #[.int .u32 (xk.sl : Int), .int .u32 (xk.gn : Int)], .agg #[.int .u32 (xr.sl : Int), .int .u32 (xr.gn : Int)]] W1 fun e w' => e = .returned (.agg #[.int .u32 ((hd X.F (stepO X.F r k l)).1 : Int), .int .u32 ((hd X.F (stepO X.F r k l)).2 : Int)]) ∧ Below W1.heap.size W1 w') := Lib.hid (fun W1 b k xk l hk hkl hl => stepT_calls (h.below b) (hz.below b) hk hkl hr hrl hl)
  have hhead : (preD X.F r).head? = some r := by obtain ⟨t, ht⟩ := preD_head ok hrlen; rw [ht]; rfl
  have HHD : Hid (hd X.F (preD X.F r).head? = (xr.sl, xr.gn)) := Lib.hid (by rw [hhead]; exact hd_some hr)
  have bt0 := (hW.block _ (lt_of_some hBt)).trans hBt
  have bh0 := (hW.block _ (lt_of_some hBh)).trans hBh
  have bW := hB.trans (hW.mono hB.size)
  have HW0 := Lib.hid (And.intro bt0 (And.intro bh0 (And.intro bW h0)))
  have HRB : Hid (xr.sl ≤ 4294967295 ∧ 1 ≤ xr.sl) := Lib.hid ⟨by omega, by omega⟩
  have c0 := cell_blk bt0 0 rfl
  have c1 := cell_blk bh0 0 rfl
  have c2 := cell_blk bh0 1 rfl
  have lbt := lt_of_some bt0
  have lbh := lt_of_some bh0
  simp at c0 c1 c2
  clear h hz hr hrl hB hBt hBh hW hJ hJx hY h0 hma hata hsla hs2a hg2a ok hhead bt0 bh0 bW
  generalize xr.sl = sr at *
  generalize xr.gn = gr at *
  have hro : Fence.wide.round = none := rfl
  refine callsIn_of_wp Tryd.func56 rfl trivial ?_ rfl
  simp only [Tryd.ntmps56, List.size_toArray, List.length_cons, List.length_nil, Nat.reduceAdd, Nat.reduceSub, Array.replicate_succ, Array.replicate_zero, List.push_toArray, List.append_toArray, List.nil_append, List.cons_append]
  have HLC : Hid (Calls Tryd.prog 40 #[.pointer (some ⟨tb, 0, none⟩), .slice (some ⟨W.heap.size, 0, none⟩) 1 1] (W.alloc (.cells #[.int .u32 (sr : Int), .int .u32 (gr : Int)] 31)) fun e w' => e = .returned (.int .i64 0) ∧ Below (W.alloc (.cells #[.int .u32 (sr : Int), .int .u32 (gr : Int)] 31)).heap.size (W.alloc (.cells #[.int .u32 (sr : Int), .int .u32 (gr : Int)] 31)) w') := Lib.hid (HLI.out _ _ (HW0.out.2.2.1.alloc HW0.out.2.2.1.size _) (HHR.out _ _ (Go.heap_alloc_new W _)))
  gi_wp2_with (refine ⟨trivial, ?_⟩; gi_at_call 40; refine (callsIn_wide.2 HLC.out).mono ?_; rintro e w1 ⟨rfl, b1⟩; have HB1 := Lib.hid (((Below.refl W.heap.size W).alloc (Nat.le_refl _) _).trans (b1.mono ((Below.refl W.heap.size W).alloc (Nat.le_refl _) _).size)); have d0 := (HB1.out.cell (p := ⟨Bh, 0, none⟩) lbh).trans c1; have d1 := (HB1.out.cell (p := ⟨Bh, 1, none⟩) lbh).trans c2; clear b1)
  have HN0 : Hid (∀ W1, Below w0.heap.size w0 W1 → NoneAt W1) := Lib.hid (fun W1 b => HZ.out.below b)
  clear d0 d1 c0 c1 c2 lbt lbh
  gi_loopg [4] (preD X.F r).length (fun n v wr => ∃ (b : Nat) (pre rest : List Nat), v = .pointer (some ⟨b, 0, none⟩) ∧ Hid (DnB X.F (preD X.F r) w0.heap.size W.heap.size Bt Bh tb sr gr w0 J n wr b pre rest))
  case atStart =>
    have hbel : Below W.heap.size W (w1.alloc (.cells #[.int .u32 (sr : Int), .int .u32 (gr : Int)] 31)) := HB1.out.alloc HB1.out.size _
    exact ⟨w1.heap.size, [], preD X.F r, rfl, Lib.hid ⟨rfl, rfl, HW0.out.2.2.2 _ _ hbel HB1.out.size (by simp), HW0.out.2.2.1.trans (hbel.mono HW0.out.2.2.1.size), ⟨HB1.out.size, hbel.size⟩, by rw [HHD.out]; exact Go.heap_alloc_new w1 _, (hbel.block _ (lt_of_some HW0.out.1)).trans HW0.out.1, (hbel.block _ (lt_of_some HW0.out.2.1)).trans HW0.out.2.1⟩⟩
  case round =>
    obtain ⟨b, pre, rest, rfl, hw⟩ := hrel
    have x0 := cell_blk hw.out.box 0 rfl
    have x1 := cell_blk hw.out.box 1 rfl
    have n0 := (HN0.out wr hw.out.low).a
    have n1 := (HN0.out wr hw.out.low).b
    cases rest with
    | nil =>
      replace x0 : wr.cell? ⟨b, 0, none⟩ = some (.int .u32 0) := x0
      replace x1 : wr.cell? ⟨b, 1, none⟩ = some (.int .u32 0) := x1
      have q0 : hEq 0 0 0 0 = true := hEq_true rfl rfl
      have HE : Hid (J b (preD X.F r) wr) := Lib.hid (by have := hw.out.all; rw [List.append_nil] at this; rw [this]; exact hw.out.j)
      gi_wp2
      refine ⟨fun _ h => (by cases h), ?_⟩
      gi_wp2
      go_end0
      exact ⟨⟨_, rfl⟩, .inl ⟨b, HE.out⟩⟩
    | cons k rest' =>
      obtain ⟨xk, lk, hk, hkl, hlk, hnx⟩ := HNEXT.out pre k rest' hw.out.all
      obtain ⟨nb, P, hm, hat, hsl, hs2, hg2⟩ := HT.out.rw.at_live hk hkl
      have e := hd_some hk
      replace x0 : wr.cell? ⟨b, 0, none⟩ = some (.int .u32 (xk.sl : Int)) := by have := x0; rw [show hd X.F (k :: rest').head? = (xk.sl, xk.gn) from e] at this; exact this
      replace x1 : wr.cell? ⟨b, 1, none⟩ = some (.int .u32 (xk.gn : Int)) := by have := x1; rw [show hd X.F (k :: rest').head? = (xk.sl, xk.gn) from e] at this; exact this
      have q0 : hEq (xk.sl : Int) (xk.gn : Int) 0 0 = false := hEq_false (.inl (by omega))
      have hpf : pre ++ [k] <+: preD X.F r := ⟨rest', by rw [hw.out.all]; simp⟩
      obtain ⟨fn, tmps, assign, body, hy, hR⟩ := HY.out b pre k wr hw.out.j hpf
      unfold encK at hy
      rw [e] at hy
      simp only at hy
      have HSTK : Hid (∀ W1, Below w0.heap.size w0 W1 → Calls Tryd.prog 48 #[.pointer (some ⟨tb, 0, none⟩), .agg #[.int .u32 (xk.sl : Int), .int .u32 (xk.gn : Int)], .agg #[.int .u32 (sr : Int), .int .u32 (gr : Int)]] W1 fun e w' => e = .returned (.agg #[.int .u32 ((hd X.F rest'.head?).1 : Int), .int .u32 ((hd X.F rest'.head?).2 : Int)]) ∧ Below W1.heap.size W1 w') := Lib.hid (fun W1 b => by rw [hnx]; exact HST.out W1 b k xk lk hk hkl hlk)
      have HALL : Hid (preD X.F r = (pre ++ [k]) ++ rest') := Lib.hid (by rw [hw.out.all]; simp)
      have HPF := Lib.hid hpf
      have HM : Hid (rest'.length < gk) := Lib.hid (by have := hw.out.len; rw [← this]; simp)
      have HE := Lib.hid e
      clear hk hkl hlk hnx e hm hat hsl hs2 hg2 hpf
      gi_wp2
      refine hR.mono ?_
      rintro e W3 (⟨rfl, hJ3, hk3⟩ | ⟨rfl, hJx3⟩)
      · have hbx3 := hk3.box _ _ _ _ (.inl rfl) hw.out.box
        have hbt3 := hk3.box _ _ _ _ (.inr (.inl rfl)) hw.out.bt
        have hbh3 := hk3.box _ _ _ _ (.inr (.inr rfl)) hw.out.bh
        have HLO3 := Lib.hid (hw.out.low.trans hk3.below)
        have H3 := Lib.hid (And.intro hbx3 (And.intro hbt3 (And.intro hbh3 hJ3)))
        have y0 := cell_blk hbx3 0 rfl
        have y1 := cell_blk hbx3 1 rfl
        have t0 := cell_blk hbt3 0 rfl
        have r0 := cell_blk hbh3 0 rfl
        have r1 := cell_blk hbh3 1 rfl
        rw [show hd X.F (k :: rest').head? = (xk.sl, xk.gn) from HE.out] at y0 y1
        have hn1 := hw.out.new
        have HNW := Lib.hid hn1
        have HNW3 : Hid (W.heap.size ≤ W3.heap.size) := Lib.hid (Nat.le_trans hn1.2 hk3.below.size)
        clear hbx3 hbt3 hbh3 hJ3 hk3 hn1
        gi_wp2_with (refine ⟨trivial, ?_⟩; gi_at_call 48; refine (callsIn_wide.2 (HSTK.out W3 HLO3.out)).mono ?_; rintro e w4 ⟨rfl, b4⟩; have hbx4 := (b4.block _ (lt_of_some H3.out.1)).trans H3.out.1; have z0 := cell_blk hbx4 0 rfl; have z1 := cell_blk hbx4 1 rfl; have f0 := free_blk hbx4 0; have f1 := free_blk hbx4 1; have lz := lt_of_some hbx4; have H4 := Lib.hid (And.intro hbx4 b4); clear hbx4 b4)
        gi_roundg rest'.length
        case measure => exact HM.out
        case rel =>
          have frt : ∀ u v c, FrB b W3 (((w4.setCell ⟨b, 0, none⟩ u).setCell ⟨b, 1, none⟩ v).alloc c) := fun u v c => (((FrB.of_below (b := b) H4.out.2).set (a := ⟨b, 0, none⟩) u).set (a := ⟨b, 1, none⟩) v).alloc c
          have hlo : ∀ u v c, Below w0.heap.size w0 (((w4.setCell ⟨b, 0, none⟩ u).setCell ⟨b, 1, none⟩ v).alloc c) := fun u v c => by
            have h1 := HW0.out.2.2.1.size
            have h2 := HNW.out.1
            have h3 := HLO3.out.size
            have h4 := H4.out.2.size
            exact (((HLO3.out.trans (H4.out.2.mono h3)).setCell (by show w0.heap.size ≤ b; omega) u).setCell (by show w0.heap.size ≤ b; omega) v).alloc (by simp; omega) c
          refine ⟨w4.heap.size, pre ++ [k], rest', rfl, Lib.hid ⟨rfl, HALL.out, HJ.out _ _ _ W3 _ H3.out.2.2.2 (frt _ _ _) (.inr ⟨H4.out.2.size, by simp⟩), hlo _ _ _, ⟨?_, ?_⟩, ?_, (frt _ _ _).blk H3.out.2.1 (by have := lt_of_some HW0.out.1; have := HNW.out.1; omega), (frt _ _ _).blk H3.out.2.2.1 (by have := lt_of_some HW0.out.2.1; have := HNW.out.1; omega)⟩⟩
          · exact Nat.le_trans HNW3.out H4.out.2.size
          · simp
            have := HNW3.out
            have := H4.out.2.size
            omega
          · have := Go.heap_alloc_new ((w4.setCell ⟨b, 0, none⟩ (.int .u32 ((hd X.F rest'.head?).1 : Int))).setCell ⟨b, 1, none⟩ (.int .u32 ((hd X.F rest'.head?).2 : Int))) (.cells #[.int .u32 ((hd X.F rest'.head?).1 : Int), .int .u32 ((hd X.F rest'.head?).2 : Int)] 31)
            simpa using this
      · have HX3 := Lib.hid hJx3
        clear hJx3
        gi_wp2
        go_end0
        exact ⟨⟨_, rfl⟩, .inr ⟨_, _, HPF.out, HX3.out⟩⟩
end
end Go.Proofs.YtelhnaphkbpakaaDoor

namespace Go.Proofs.YtelhnaphkbpakaaDoor
open Go.RowKit
set_option linter.unusedVariables false
set_option maxRecDepth 100000

section
variable {B : Nat} {Q : Nat → Prop} {w w' : World} {tb : Nat} {X : TX} {Lf : Nat → Nat → Nat × Nat}
theorem lives2_calls (h : TreeRw B Q w tb X Lf) {ka kb : Nat} {xa xb : FN} (ha : X.F[ka]? = some xa) (hal : xa.live = true) (hb : X.F[kb]? = some xb) (hbl : xb.live = true) {gb : Nat} (hgb : w.heap[gb]? = some (.cells #[.int .u32 (xa.sl : Int), .int .u32 (xa.gn : Int), .int .u32 (xb.sl : Int), .int .u32 (xb.gn : Int)] 31 (0, 0))) :
    Calls Tryd.prog 40 #[.pointer (some ⟨tb, 0, none⟩), .slice (some ⟨gb, 0, none⟩) 2 2] w fun e w' => e = .returned (.int .i64 0) ∧ Below w.heap.size w w' := by
  obtain ⟨nba, Pa, hma, hata, hsla, hs2a, hg2a⟩ := h.at_live ha hal
  obtain ⟨nbb, Pb, hmb, hatb, hslb, hs2b, hg2b⟩ := h.at_live hb hbl
  have hr : HRow w gb [(xa.sl, xa.gn), (xb.sl, xb.gn)] := ⟨fun j p hp => by
    match j, hp with
    | 0, hp => cases hp; exact ⟨cell_blk hgb 0 rfl, cell_blk hgb 1 rfl⟩
    | 1, hp => cases hp; exact ⟨cell_blk hgb 2 rfl, cell_blk hgb 3 rfl⟩
    | j + 2, hp => simp at hp, by
    intro p hp
    rcases List.mem_cons.1 hp with rfl | hp
    · exact ⟨by simp only; omega, by simp only; omega⟩
    · obtain rfl := List.mem_singleton.1 hp; exact ⟨by simp only; omega, by simp only; omega⟩⟩
  exact lives_calls h hr (by simp) (.inl ⟨rfl, by
    intro p hp
    rcases List.mem_cons.1 hp with rfl | hp
    · exact ⟨ka, xa, ha, hal, rfl, rfl⟩
    · obtain rfl := List.mem_singleton.1 hp; exact ⟨kb, xb, hb, hbl, rfl, rfl⟩⟩)
end
section
variable {B : Nat} {Q : Nat → Prop} {w w' : World} {tb : Nat} {X : TX}
set_option maxHeartbeats 4000000 in
theorem containsT_calls (h : TreeAt B Q w tb X) (hz : NoneAt w) {ka kb : Nat} {xa xb : FN} (ha : X.F[ka]? = some xa) (hal : xa.live = true) (hb : X.F[kb]? = some xb) (hbl : xb.live = true) {cb : List Nat} (hcb : Chain X.F kb (kb :: cb)) :
    Calls Tryd.prog 14 #[.pointer (some ⟨tb, 0, none⟩), .agg #[.int .u32 (xa.sl : Int), .int .u32 (xa.gn : Int)], .agg #[.int .u32 (xb.sl : Int), .int .u32 (xb.gn : Int)]] w fun e w' => e = .returned (.tuple #[.bool (decide (ka ∈ kb :: cb)), .int .i64 0]) ∧ Below w.heap.size w w' := by
  have HL2 : Hid (∀ W gb, Below w.heap.size w W → W.heap[gb]? = some (.cells #[.int .u32 (xa.sl : Int), .int .u32 (xa.gn : Int), .int .u32 (xb.sl : Int), .int .u32 (xb.gn : Int)] 31 (0, 0)) → Calls Tryd.prog 40 #[.pointer (some ⟨tb, 0, none⟩), .slice (some ⟨gb, 0, none⟩) 2 2] W fun e w' => e = .returned (.int .i64 0) ∧ Below W.heap.size W w') := Lib.hid (fun W gb b hgb => lives2_calls (h.rw.below b) ha hal hb hbl hgb)
  have HH2 : Hid (∀ W, Below w.heap.size w W → Calls Tryd.prog 44 #[.pointer (some ⟨tb, 0, none⟩), .agg #[.int .u32 (xa.sl : Int), .int .u32 (xa.gn : Int)], .agg #[.int .u32 (xb.sl : Int), .int .u32 (xb.gn : Int)]] W fun e w' => e = .returned (.bool (decide (ka ∈ cb))) ∧ Below W.heap.size W w') := Lib.hid (fun W b => hasT_calls (h.below b) (hz.below b) ha hal hb hbl hcb)
  have hE := h.rw.hd_inj ⟨xa, ha, hal⟩ ⟨xb, hb, hbl⟩
  rw [hd_some ha, hd_some hb] at hE
  simp only at hE
  have HE : Hid (hEq (xa.sl : Int) (xa.gn : Int) (xb.sl : Int) (xb.gn : Int) = decide (ka = kb)) := Lib.hid hE
  obtain ⟨r, hr⟩ : ∃ r, r = decide (ka ∈ kb :: cb) := ⟨_, rfl⟩
  rw [← hr]
  have HR := Lib.hid hr
  clear h hz ha hal hb hbl hcb hE hr
  generalize xa.sl = sa at *
  generalize xa.gn = ga at *
  generalize xb.sl = sb at *
  generalize xb.gn = gb at *
  obtain ⟨V, hV⟩ : ∃ V, V = ((w.alloc (.cells #[.int .u32 (sa : Int), .int .u32 (ga : Int)] 31)).alloc (.cells #[.int .u32 (sb : Int), .int .u32 (gb : Int)] 31)).alloc (.cells #[.int .u32 (sa : Int), .int .u32 (ga : Int), .int .u32 (sb : Int), .int .u32 (gb : Int)] 31) := ⟨_, rfl⟩
  have bV : Below w.heap.size w V := by rw [hV]; exact alloc3_lo _ _ _ _
  have hx := alloc3_bt w (.cells #[.int .u32 (sa : Int), .int .u32 (ga : Int)] 31) (.cells #[.int .u32 (sb : Int), .int .u32 (gb : Int)] 31) (.cells #[.int .u32 (sa : Int), .int .u32 (ga : Int), .int .u32 (sb : Int), .int .u32 (gb : Int)] 31)
  rw [← hV] at hx
  have HX := Lib.hid (And.intro hx bV)
  have hV2 := hV
  clear hV hx bV
  go_enter Tryd.func14, Tryd.ntmps14
  go_wp2_with fail
  rw [← hV2]
  clear hV2
  by_cases e : ka = kb
  · have q : hEq (sa : Int) (ga : Int) (sb : Int) (gb : Int) = true := by rw [HE.out]; exact decide_eq_true e
    have HRR : Hid (r = true) := Lib.hid (by rw [HR.out]; exact decide_eq_true (by rw [e]; simp))
    clear e HE
    go_wp2_with (go_at_call 40; refine (HL2.out V _ HX.out.2 HX.out.1.2.2).mono ?_; rintro e w1 ⟨rfl, b1⟩; have HB1 := Lib.hid (HX.out.2.trans (b1.mono HX.out.2.size)); have h1 := (b1.block _ (lt_of_some HX.out.1.1)).trans HX.out.1.1; have h2 := (b1.block _ (lt_of_some HX.out.1.2.1)).trans HX.out.1.2.1; have c0 := cell_blk h1 0 rfl; have c1 := cell_blk h1 1 rfl; have c2 := cell_blk h2 0 rfl; have c3 := cell_blk h2 1 rfl; clear b1 h1 h2)
    go_ret2
    exact ⟨by rw [HRR.out]; rfl, HB1.out⟩
  · have q : hEq (sa : Int) (ga : Int) (sb : Int) (gb : Int) = false := by rw [HE.out]; exact decide_eq_false e
    have HRR : Hid (r = decide (ka ∈ cb)) := Lib.hid (by rw [HR.out]; simp [e])
    clear e HE
    go_wp2_with (first | (go_at_call 40; refine (HL2.out V _ HX.out.2 HX.out.1.2.2).mono ?_; rintro e w1 ⟨rfl, b1⟩; have HB1 := Lib.hid (HX.out.2.trans (b1.mono HX.out.2.size)); have h1 := (b1.block _ (lt_of_some HX.out.1.1)).trans HX.out.1.1; have h2 := (b1.block _ (lt_of_some HX.out.1.2.1)).trans HX.out.1.2.1; have c0 := cell_blk h1 0 rfl; have c1 := cell_blk h1 1 rfl; have c2 := cell_blk h2 0 rfl; have c3 := cell_blk h2 1 rfl; clear b1 h1 h2) | (go_at_call 44; refine (HH2.out _ HB1.out).mono ?_; rintro e w2 ⟨rfl, b2⟩; have HB2 := Lib.hid (HB1.out.trans (b2.mono HB1.out.size)); clear b2))
    go_ret2
    exact ⟨by rw [HRR.out]; rfl, HB2.out⟩
set_option maxHeartbeats 4000000 in
theorem withinT_calls (h : TreeAt B Q w tb X) (hz : NoneAt w) {k r : Nat} {xk xr : FN} (hk : X.F[k]? = some xk) (hkl : xk.live = true) (hr : X.F[r]? = some xr) (hrl : xr.live = true) {c : List Nat} (hc : Chain X.F k (k :: c)) {e0 : Int} (he : (r ∈ k :: c ∧ e0 = 0) ∨ (r ∉ k :: c ∧ e0 = 1)) :
    Calls Tryd.prog 52 #[.pointer (some ⟨tb, 0, none⟩), .agg #[.int .u32 (xk.sl : Int), .int .u32 (xk.gn : Int)], .agg #[.int .u32 (xr.sl : Int), .int .u32 (xr.gn : Int)]] w fun e w' => e = .returned (.int .i64 e0) ∧ Below w.heap.size w w' := by
  have HC : Hid (∀ W, Below w.heap.size w W → Calls Tryd.prog 14 #[.pointer (some ⟨tb, 0, none⟩), .agg #[.int .u32 (xr.sl : Int), .int .u32 (xr.gn : Int)], .agg #[.int .u32 (xk.sl : Int), .int .u32 (xk.gn : Int)]] W fun e w' => e = .returned (.tuple #[.bool (decide (r ∈ k :: c)), .int .i64 0]) ∧ Below W.heap.size W w') := Lib.hid (fun W b => containsT_calls (h.below b) (hz.below b) hr hrl hk hkl hc)
  clear h hz hk hkl hr hrl hc
  generalize xk.sl = sa at *
  generalize xk.gn = ga at *
  generalize xr.sl = sb at *
  generalize xr.gn = gb at *
  have HB0 : Hid (Below w.heap.size w ((w.alloc (.cells #[.int .u32 (sa : Int), .int .u32 (ga : Int)] 31)).alloc (.cells #[.int .u32 (sb : Int), .int .u32 (gb : Int)] 31))) := Lib.hid (((Below.refl _ w).alloc (Nat.le_refl _) _).alloc (by simp) _)
  rcases he with ⟨hm, rfl⟩ | ⟨hm, rfl⟩
  · rw [decide_eq_true hm] at HC
    clear hm
    go_enter Tryd.func52, Tryd.ntmps52
    go_wp2_with (go_at_call 14; refine (HC.out _ HB0.out).mono ?_; rintro e w1 ⟨rfl, b1⟩; have HB1 := Lib.hid (HB0.out.trans (b1.mono HB0.out.size)); clear b1)
    go_ret
    exact ⟨rfl, HB1.out⟩
  · rw [decide_eq_false hm] at HC
    clear hm
    go_enter Tryd.func52, Tryd.ntmps52
    go_wp2_with (go_at_call 14; refine (HC.out _ HB0.out).mono ?_; rintro e w1 ⟨rfl, b1⟩; have HB1 := Lib.hid (HB0.out.trans (b1.mono HB0.out.size)); clear b1)
    go_ret
    exact ⟨rfl, HB1.out⟩
set_option maxHeartbeats 4000000 in
theorem nextT_calls (h : TreeAt B Q w tb X) (hz : NoneAt w) {k r : Nat} {xk xr : FN} (hk : X.F[k]? = some xk) (hkl : xk.live = true) (hr : X.F[r]? = some xr) (hrl : xr.live = true) {c : List Nat} (hc : Chain X.F k (k :: c)) (hm : r ∈ k :: c) :
    Calls Tryd.prog 23 #[.pointer (some ⟨tb, 0, none⟩), .agg #[.int .u32 (xk.sl : Int), .int .u32 (xk.gn : Int)], .agg #[.int .u32 (xr.sl : Int), .int .u32 (xr.gn : Int)]] w fun e w' => e = .returned (.tuple #[.agg #[.int .u32 ((hd X.F (stepO X.F r k (k :: c))).1 : Int), .int .u32 ((hd X.F (stepO X.F r k (k :: c))).2 : Int)], .int .i64 0]) ∧ Below w.heap.size w w' := by
  have HW : Hid (∀ W, Below w.heap.size w W → Calls Tryd.prog 52 #[.pointer (some ⟨tb, 0, none⟩), .agg #[.int .u32 (xk.sl : Int), .int .u32 (xk.gn : Int)], .agg #[.int .u32 (xr.sl : Int), .int .u32 (xr.gn : Int)]] W fun e w' => e = .returned (.int .i64 0) ∧ Below W.heap.size W w') := Lib.hid (fun W b => withinT_calls (h.below b) (hz.below b) hk hkl hr hrl hc (.inl ⟨hm, rfl⟩))
  have HS : Hid (∀ W, Below w.heap.size w W → Calls Tryd.prog 48 #[.pointer (some ⟨tb, 0, none⟩), .agg #[.int .u32 (xk.sl : Int), .int .u32 (xk.gn : Int)], .agg #[.int .u32 (xr.sl : Int), .int .u32 (xr.gn : Int)]] W fun e w' => e = .returned (.agg #[.int .u32 ((hd X.F (stepO X.F r k (k :: c))).1 : Int), .int .u32 ((hd X.F (stepO X.F r k (k :: c))).2 : Int)]) ∧ Below W.heap.size W w') := Lib.hid (fun W b => stepT_calls (h.below b) (hz.below b) hk hkl hr hrl hc)
  clear h hz hk hkl hr hrl hc hm
  generalize (hd X.F (stepO X.F r k (k :: c))).1 = n1 at *
  generalize (hd X.F (stepO X.F r k (k :: c))).2 = n2 at *
  generalize xk.sl = s at *
  generalize xk.gn = g at *
  generalize xr.sl = s1 at *
  generalize xr.gn = g1 at *
  obtain ⟨a1, a2, a3⟩ := alloc3_bt w (.cells #[.int .u32 (s : Int), .int .u32 (g : Int)] 31) (.cells #[.int .u32 (s1 : Int), .int .u32 (g1 : Int)] 31) (.cells #[.int .u32 0, .int .u32 0] 31)
  have HA := Lib.hid (And.intro (And.intro a1 (And.intro a2 a3)) (alloc3_lo w (.cells #[.int .u32 (s : Int), .int .u32 (g : Int)] 31) (.cells #[.int .u32 (s1 : Int), .int .u32 (g1 : Int)] 31) (.cells #[.int .u32 0, .int .u32 0] 31)))
  clear a1 a2 a3
  go_enter Tryd.func23, Tryd.ntmps23
  go_wp2_with (first | (go_at_call 52; refine (HW.out _ HA.out.2).mono ?_; rintro e w1 ⟨rfl, b1⟩; have HB1 := Lib.hid (HA.out.2.trans (b1.mono HA.out.2.size)); have h1 := (b1.block _ (lt_of_some HA.out.1.1)).trans HA.out.1.1; have h2 := (b1.block _ (lt_of_some HA.out.1.2.1)).trans HA.out.1.2.1; have h3 := (b1.block _ (lt_of_some HA.out.1.2.2)).trans HA.out.1.2.2; have c0 := cell_blk h1 0 rfl; have c1 := cell_blk h1 1 rfl; have c2 := cell_blk h2 0 rfl; have c3 := cell_blk h2 1 rfl; have HX3 := Lib.hid h3; clear b1 h1 h2 h3) | (go_at_call 48; refine (HS.out _ HB1.out).mono ?_; rintro e w2 ⟨rfl, b2⟩; have HB2 := Lib.hid (HB1.out.trans (b2.mono HB1.out.size)); have hx := (b2.block _ (lt_of_some HX3.out)).trans HX3.out; have e0 := cell_blk hx 0 rfl; have e1 := cell_blk hx 1 rfl; have f0 := free_blk hx 0; have f1 := free_blk hx 1; have HX := Lib.hid hx; clear b2 hx))
  have hF := set_blk (set_blk HX.out 0 (.int .u32 (n1 : Int))) 1 (.int .u32 (n2 : Int))
  have z0 := cell_blk hF 0 rfl
  have z1 := cell_blk hF 1 rfl
  exact bodyPost_ret (v := .tuple #[.agg #[.int .u32 (n1 : Int), .int .u32 (n2 : Int)], .int .i64 0]) (by simp [results, Tryd.results23, go_sem, z0, z1]) rfl ⟨rfl, (HB2.out.setCell (by simp only; omega) _).setCell (by simp only; omega) _⟩
end
end Go.Proofs.YtelhnaphkbpakaaDoor

namespace Go.Proofs.YtelhnaphkbpakaaDoor
set_option linter.unusedVariables false

theorem getLast_flat {l : List Nat} {f : Nat → List Nat} {c : Nat} (h : l.getLast? = some c) (hc : f c ≠ []) : (l.flatMap f).getLast? = (f c).getLast? := by
  rcases List.eq_nil_or_concat l with rfl | ⟨t, x, rfl⟩
  · cases h
  · rw [List.concat_eq_append] at h ⊢
    obtain rfl : x = c := by simpa using h
    rw [List.flatMap_append, List.getLast?_append]
    cases hl : (List.flatMap f [x]).getLast? with
    | none =>
      have := List.getLast?_eq_none_iff.1 hl
      simp at this
      exact absurd this hc
    | some v =>
      have e : List.flatMap f [x] = f x := by simp
      rw [e] at hl
      rw [hl]
      rfl
/-- The last one of the order beneath a node. -/
theorem last_down {F : For} (ok : FOk F) {k : Nat} (hk : k < F.length) : (∀ c, lkO F k 2 = some c → (preD F k).getLast? = (preD F c).getLast?) ∧ (lkO F k 2 = none → preD F k = [k]) := by
  have e := preD_eq ok hk
  refine ⟨fun c hc => ?_, fun hn => ?_⟩
  · have hc : (dnOf F (some k)).getLast? = some c := hc
    have hm : c ∈ dnOf F (some k) := List.mem_of_getLast? hc
    have hcl := (ok.kid_up hm).2
    obtain ⟨t, ht⟩ := preD_head ok hcl
    have h1 := getLast_flat (f := preD F) hc (by rw [ht]; simp)
    rw [e, ← h1]
    have hne : (dnOf F (some k)).flatMap (preD F) ≠ [] := by
      intro h0
      rw [h0] at h1
      rw [ht] at h1
      simp at h1
      exact absurd h1.symm (by simp)
    rw [show k :: (dnOf F (some k)).flatMap (preD F) = [k] ++ (dnOf F (some k)).flatMap (preD F) from rfl, List.getLast?_append]
    cases hl : ((dnOf F (some k)).flatMap (preD F)).getLast? with
    | none => exact absurd (List.getLast?_eq_none_iff.1 hl) hne
    | some v => rfl
  · have hn : (dnOf F (some k)).getLast? = none := hn
    rw [e, List.getLast?_eq_none_iff.1 hn]
    rfl
/-- What stands ahead of a node in the order is the last of its sibling ahead, or its parent. -/
theorem step_prev {F : For} (ok : FOk F) : ∀ v, v < F.length → ∀ {m : Nat} {p q : List Nat}, preD F v = p ++ m :: q → m ≠ v → (∀ s, lkO F m 3 = some s → p.getLast? = (preD F s).getLast?) ∧ (lkO F m 3 = none → p.getLast? = upOf F m) := by
  refine ok.kids_ind (fun v hv ih m p q hs hmv => ?_)
  have hnd := preD_nodup ok v hv
  have hm : m ∈ preD F v := by rw [hs]; simp
  rw [preD_eq ok hv] at hm
  rcases List.mem_cons.1 hm with h1 | hm
  · exact absurd h1 hmv
  obtain ⟨c, hc, hm⟩ := List.mem_flatMap.1 hm
  obtain ⟨x, y, hxy⟩ := List.append_of_mem hc
  obtain ⟨p', q', hpq⟩ := List.append_of_mem hm
  have hcu := ok.kid_up hc
  have h2 : preD F v = (v :: x.flatMap (preD F) ++ p') ++ m :: (q' ++ y.flatMap (preD F)) := by
    rw [preD_eq ok hv, hxy, List.flatMap_append, List.flatMap_cons, hpq]
    simp
  obtain ⟨hp, _⟩ := split_once hnd hs h2
  subst hp
  by_cases hmc : m = c
  · subst hmc
    have hp' : p' = [] := by
      obtain ⟨t, ht⟩ := preD_head ok hcu.2
      exact (split_once (p' := []) (q' := t) (preD_nodup ok m hcu.2) hpq ht).1
    subst hp'
    have hnx : m ∉ x := by
      have h8 : (dnOf F (some v)).Nodup := by have := (ok.sibs m).1; rw [hcu.1] at this; exact this
      rw [hxy] at h8
      exact fun h => (List.nodup_append.1 h8).2.2 m h m (by simp) rfl
    have h7 : lkO F m 3 = x.getLast? := by
      show prevOf (dnOf F (upOf F m)) m = _
      rw [hcu.1, hxy]
      exact prev_split hnx
    rw [h7, List.append_nil, hcu.1]
    refine ⟨fun s hs' => ?_, fun hn => ?_⟩
    · have hsm : s ∈ dnOf F (some v) := by rw [hxy]; exact List.mem_append_left _ (List.mem_of_getLast? hs')
      obtain ⟨t, ht⟩ := preD_head ok (ok.kid_up hsm).2
      have h3 := getLast_flat (f := preD F) hs' (by rw [ht]; simp)
      rw [← h3, show v :: x.flatMap (preD F) = [v] ++ x.flatMap (preD F) from rfl, List.getLast?_append]
      cases hl : (x.flatMap (preD F)).getLast? with
      | none =>
        rw [hl, ht] at h3
        have := List.getLast?_eq_none_iff.1 h3.symm
        cases this
      | some v => rfl
    · rw [List.getLast?_eq_none_iff.1 hn]
      rfl
  · have hne : p' ≠ [] := by
      rintro rfl
      obtain ⟨t, ht⟩ := preD_head ok hcu.2
      rw [ht] at hpq
      simp at hpq
      exact hmc hpq.1.symm
    obtain ⟨k1, k2⟩ := ih c hc hpq hmc
    have e : (v :: x.flatMap (preD F) ++ p').getLast? = p'.getLast? := by
      rw [List.getLast?_append]
      cases hl : p'.getLast? with
      | none => exact absurd (List.getLast?_eq_none_iff.1 hl) hne
      | some v => rfl
    rw [e]
    exact ⟨k1, k2⟩
end Go.Proofs.YtelhnaphkbpakaaDoor

namespace Go.Proofs.YtelhnaphkbpakaaDoor
open Go.RowKit
set_option linter.unusedVariables false
set_option maxRecDepth 100000

theorem preD_kid_len {F : For} (ok : FOk F) {k c : Nat} (hk : k < F.length) (hc : c ∈ dnOf F (some k)) : (preD F c).length < (preD F k).length := by
  obtain ⟨x, y, e⟩ := List.append_of_mem hc
  rw [preD_eq ok hk, e]
  simp
  omega
theorem FOk.last_live {F : For} (ok : FOk F) {k c : Nat} (h : lkO F k 2 = some c) : ∃ x : FN, F[c]? = some x ∧ x.live = true := by
  have hm : c ∈ dnOf F (some k) := List.mem_of_getLast? h
  unfold dnOf at hm
  simp only [Option.bind_some] at hm
  cases hk : F[k]? with
  | none => rw [hk] at hm; cases hm
  | some y =>
    rw [hk] at hm
    obtain ⟨x, hx, _, hl⟩ := ok.dn k y hk c hm
    exact ⟨x, hx, hl⟩
theorem FOk.ahead_live {F : For} (ok : FOk F) {k c : Nat} (h : lkO F k 3 = some c) : ∃ x : FN, F[c]? = some x ∧ x.live = true := by
  have h1 : prevOf (dnOf F (upOf F k)) k = some c := h
  unfold prevOf at h1
  split at h1
  · cases h1
  · exact ((ok.sibs k).2.2 c (List.mem_of_getElem? h1)).2
section
variable {B : Nat} {Q : Nat → Prop} {w w' : World} {tb : Nat} {X : TX}
set_option maxHeartbeats 8000000 in
theorem prevT_calls (h : TreeAt B Q w tb X) (hz : NoneAt w) {k r t : Nat} {xk xr xt : FN} (hk : X.F[k]? = some xk) (hkl : xk.live = true) (hr : X.F[r]? = some xr) (hrl : xr.live = true) {c : List Nat} (hc : Chain X.F k (k :: c)) (hm : r ∈ k :: c) (hne : k ≠ r) {p q : List Nat} (hp : preD X.F r = p ++ k :: q) (ht : p.getLast? = some t) (hxt : X.F[t]? = some xt) :
    Calls Tryd.prog 24 #[.pointer (some ⟨tb, 0, none⟩), .agg #[.int .u32 (xk.sl : Int), .int .u32 (xk.gn : Int)], .agg #[.int .u32 (xr.sl : Int), .int .u32 (xr.gn : Int)]] w fun e w' => e = .returned (.tuple #[.agg #[.int .u32 (xt.sl : Int), .int .u32 (xt.gn : Int)], .int .i64 0]) ∧ Below w.heap.size w w' := by
  have HT := Lib.hid h
  have HZ := Lib.hid hz
  have ok := Lib.hid h.fok
  have hrlen := (List.getElem?_eq_some_iff.1 hr).1
  obtain ⟨sp1, sp2⟩ := step_prev h.fok r hrlen hp hne
  have HSP := Lib.hid (And.intro sp1 (And.intro sp2 (And.intro ht hxt)))
  have HW : Hid (∀ W, Below w.heap.size w W → Calls Tryd.prog 52 #[.pointer (some ⟨tb, 0, none⟩), .agg #[.int .u32 (xk.sl : Int), .int .u32 (xk.gn : Int)], .agg #[.int .u32 (xr.sl : Int), .int .u32 (xr.gn : Int)]] W fun e w' => e = .returned (.int .i64 0) ∧ Below W.heap.size W w') := Lib.hid (fun W b => withinT_calls (h.below b) (hz.below b) hk hkl hr hrl hc (.inl ⟨hm, rfl⟩))
  have HA3 : Hid (∀ W, Below w.heap.size w W → Calls Tryd.prog 53 #[.pointer (some ⟨tb, 0, none⟩), .agg #[.int .u32 (xk.sl : Int), .int .u32 (xk.gn : Int)]] W fun e w' => e = .returned (.tuple #[.agg #[.int .u32 ((hd X.F (lkO X.F k 3)).1 : Int), .int .u32 ((hd X.F (lkO X.F k 3)).2 : Int)], .int .i64 0]) ∧ Below W.heap.size W w') := Lib.hid (fun W b => ahead_live (h.rw.below b) hk hkl)
  have HPA : Hid (∀ W, Below w.heap.size w W → Calls Tryd.prog 54 #[.pointer (some ⟨tb, 0, none⟩), .agg #[.int .u32 (xk.sl : Int), .int .u32 (xk.gn : Int)]] W fun e w' => e = .returned (.tuple #[.agg #[.int .u32 ((hd X.F (upOf X.F k)).1 : Int), .int .u32 ((hd X.F (upOf X.F k)).2 : Int)], .int .i64 0]) ∧ Below W.heap.size W w') := Lib.hid (fun W b => parent_live (h.rw.below b) hk hkl)
  have hE := h.rw.hd_inj ⟨xk, hk, hkl⟩ ⟨xr, hr, hrl⟩
  rw [hd_some hk, hd_some hr, decide_eq_false hne] at hE
  have qE : hEq (xk.sl : Int) (xk.gn : Int) (xr.sl : Int) (xr.gn : Int) = false := hE
  clear h hz hk hkl hr hrl hc hm hne hp ht hxt hE sp1 sp2 hrlen
  obtain ⟨ts, hts⟩ : ∃ s, s = xt.sl := ⟨_, rfl⟩
  obtain ⟨tg, htg⟩ : ∃ s, s = xt.gn := ⟨_, rfl⟩
  rw [← hts, ← htg]
  have HTS := Lib.hid (And.intro hts htg)
  clear hts htg
  generalize xk.sl = s at *
  generalize xk.gn = g at *
  generalize xr.sl = s1 at *
  generalize xr.gn = g1 at *
  obtain ⟨a1, a2, a3⟩ := alloc3_bt w (.cells #[.int .u32 (s : Int), .int .u32 (g : Int)] 31) (.cells #[.int .u32 (s1 : Int), .int .u32 (g1 : Int)] 31) (.cells #[.int .u32 0, .int .u32 0] 31)
  have HA := Lib.hid (And.intro (And.intro a1 (And.intro a2 a3)) (alloc3_lo w (.cells #[.int .u32 (s : Int), .int .u32 (g : Int)] 31) (.cells #[.int .u32 (s1 : Int), .int .u32 (g1 : Int)] 31) (.cells #[.int .u32 0, .int .u32 0] 31)))
  clear a1 a2 a3
  have WARM : True := trivial
  cases hl3 : lkO X.F k 3 with
  | none =>
    have hup : upOf X.F k = some t := by rw [← HSP.out.2.1 hl3]; exact HSP.out.2.2.1
    rw [hl3, hd_none] at HA3
    rw [hup, hd_some HSP.out.2.2.2, ← HTS.out.1, ← HTS.out.2] at HPA
    have q0 : hEq 0 0 0 0 = true := hEq_true rfl rfl
    clear hl3 hup
    go_enter Tryd.func24, Tryd.ntmps24
    go_wp2_with (first | (go_at_call 52; refine (HW.out _ HA.out.2).mono ?_; rintro e w1 ⟨rfl, b1⟩; have HB1 := Lib.hid (HA.out.2.trans (b1.mono HA.out.2.size)); have h1 := (b1.block _ (lt_of_some HA.out.1.1)).trans HA.out.1.1; have h2 := (b1.block _ (lt_of_some HA.out.1.2.1)).trans HA.out.1.2.1; have h3 := (b1.block _ (lt_of_some HA.out.1.2.2)).trans HA.out.1.2.2; have c0 := cell_blk h1 0 rfl; have c1 := cell_blk h1 1 rfl; have c2 := cell_blk h2 0 rfl; have c3 := cell_blk h2 1 rfl; have HX1 := Lib.hid (And.intro h1 h3); clear b1 h1 h2 h3) | (go_at_call 53; refine (HA3.out _ HB1.out).mono ?_; rintro e w2 ⟨rfl, b2⟩; have HB2 := Lib.hid (HB1.out.trans (b2.mono HB1.out.size)); have h1 := (b2.block _ (lt_of_some HX1.out.1)).trans HX1.out.1; have h3 := (b2.block _ (lt_of_some HX1.out.2)).trans HX1.out.2; have n0 := (HZ.out.below HB2.out).a; have n1 := (HZ.out.below HB2.out).b; have nl := cell_lt n0; have d0 := cell_blk h1 0 rfl; have d1 := cell_blk h1 1 rfl; have dl := lt_of_some h1; have hn3 : w.heap.size + 1 + 1 ≠ w2.heap.size := Nat.ne_of_lt (lt_of_some h3); have hn4 : w2.heap.size ≠ w.heap.size + 1 + 1 := Ne.symm hn3; have HX2 := Lib.hid h3; clear b2 h1 h3) | (go_at_call 54; refine (HPA.out _ (HB2.out.alloc HB2.out.size _)).mono ?_; rintro e w3 ⟨rfl, b3⟩; have HB3 := Lib.hid ((HB2.out.alloc HB2.out.size _).trans (b3.mono (HB2.out.alloc HB2.out.size _).size)); have h9 := (b3.block _ (lt_of_some (Go.heap_alloc_new w2 _))).trans (Go.heap_alloc_new w2 (.cells #[.int .u32 0, .int .u32 0] 31)); have h3 := (b3.block _ (Nat.lt_of_lt_of_le (lt_of_some HX2.out) ((Below.refl w2.heap.size w2).alloc (Nat.le_refl _) _).size)).trans (alloc_blk HX2.out _); have m0 := free_blk h9 0; have m1 := free_blk h9 1; have m2 := cell_blk h9 0 rfl; have m3 := cell_blk h9 1 rfl; have e0 := cell_blk h3 0 rfl; have e1 := cell_blk h3 1 rfl; have f0 := free_blk h3 0; have f1 := free_blk h3 1; have l9 := lt_of_some h9; have l3 := lt_of_some h3; have HX3 := Lib.hid (And.intro h9 h3); clear b3 h9 h3))
    have hs2 := HB2.out.size
    have hF3 : ((w3.setCell ⟨w2.heap.size, 0, none⟩ (.int .u32 (ts : Int))).setCell ⟨w2.heap.size, 1, none⟩ (.int .u32 (tg : Int))).heap[w.heap.size + 1 + 1]? = some (.cells #[.int .u32 0, .int .u32 0] 31 (0, 0)) := by rw [heap_setCell_other _ _ _ _ hn3, heap_setCell_other _ _ _ _ hn3]; exact HX3.out.2
    have hF := set_blk (set_blk hF3 0 (.int .u32 (ts : Int))) 1 (.int .u32 (tg : Int))
    have z0 := cell_blk hF 0 rfl
    have z1 := cell_blk hF 1 rfl
    exact bodyPost_ret (v := .tuple #[.agg #[.int .u32 (ts : Int), .int .u32 (tg : Int)], .int .i64 0]) (by simp [results, Tryd.results24, go_sem, z0, z1]) rfl ⟨rfl, (((HB3.out.setCell hs2 _).setCell hs2 _).setCell (by simp only; omega) _).setCell (by simp only; omega) _⟩
  | some s3 =>
    obtain ⟨x3, k3, k3l⟩ := ok.out.ahead_live hl3
    have hl := HSP.out.1 s3 hl3
    have H0 : Hid ((preD X.F s3).getLast? = some t) := Lib.hid (by rw [← hl]; exact HSP.out.2.2.1)
    rw [hl3, hd_some k3] at HA3
    obtain ⟨nb, P, hmm, hat, hsl, hs2, hg2⟩ := HT.out.rw.at_live k3 k3l
    have q0 : hEq (x3.sl : Int) (x3.gn : Int) 0 0 = false := hEq_false (.inl (by omega))
    have H3 := Lib.hid (And.intro k3 k3l)
    clear hl3 k3 k3l hl hmm hat hsl hs2 hg2
    go_enter Tryd.func24, Tryd.ntmps24
    go_wp2_with (first | (go_at_call 52; refine (HW.out _ HA.out.2).mono ?_; rintro e w1 ⟨rfl, b1⟩; have HB1 := Lib.hid (HA.out.2.trans (b1.mono HA.out.2.size)); have h1 := (b1.block _ (lt_of_some HA.out.1.1)).trans HA.out.1.1; have h2 := (b1.block _ (lt_of_some HA.out.1.2.1)).trans HA.out.1.2.1; have h3 := (b1.block _ (lt_of_some HA.out.1.2.2)).trans HA.out.1.2.2; have c0 := cell_blk h1 0 rfl; have c1 := cell_blk h1 1 rfl; have c2 := cell_blk h2 0 rfl; have c3 := cell_blk h2 1 rfl; have HX1 := Lib.hid (And.intro h1 h3); clear b1 h1 h2 h3) | (go_at_call 53; refine (HA3.out _ HB1.out).mono ?_; rintro e w2 ⟨rfl, b2⟩; have HB2 := Lib.hid (HB1.out.trans (b2.mono HB1.out.size)); have h3 := (b2.block _ (lt_of_some HX1.out.2)).trans HX1.out.2; have n0 := (HZ.out.below HB2.out).a; have n1 := (HZ.out.below HB2.out).b; have nl := cell_lt n0; have HX2 := Lib.hid h3; clear b2 h3))
    clear q0 n0 n1 nl c0 c1 c2 c3 qE
    go_loopg [12] (preD X.F s3).length (fun n v wr => ∃ (y : Nat) (xy : FN), Hid (X.F[y]? = some xy ∧ xy.live = true ∧ (preD X.F y).getLast? = some t ∧ (preD X.F y).length = n ∧ Below w.heap.size w wr) ∧ wr.heap[w2.heap.size]? = some (.cells #[.int .u32 (xy.sl : Int), .int .u32 (xy.gn : Int)] 31 (0, 0)) ∧ wr.heap[w.heap.size + 1 + 1]? = some (.cells #[.int .u32 0, .int .u32 0] 31 (0, 0)))
    case atStart => exact ⟨s3, x3, Lib.hid ⟨H3.out.1, H3.out.2, H0.out, rfl, HB2.out.alloc HB2.out.size _⟩, Go.heap_alloc_new w2 _, alloc_blk HX2.out _⟩
    case round =>
      obtain ⟨y, xy, hw, hx, hz⟩ := hrel
      have x0 := cell_blk hx 0 rfl
      have x1 := cell_blk hx 1 rfl
      have u0 := cell_blk hz 0 rfl
      have u1 := cell_blk hz 1 rfl
      have f0 := free_blk hz 0
      have f1 := free_blk hz 1
      have g0 := free_blk hx 0
      have g1' := free_blk hx 1
      have lx := lt_of_some hx
      have lz := lt_of_some hz
      have HY := Lib.hid (And.intro hx hz)
      have hlow := hw.out.2.2.2.2
      have HLO := Lib.hid hlow
      have hsz := hlow.size
      have hne := Nat.ne_of_lt (lt_of_some HX2.out)
      have hyl := (List.getElem?_eq_some_iff.1 hw.out.1).1
      obtain ⟨ld1, ld2⟩ := last_down ok.out hyl
      have HLA : Hid (∀ W, Below w.heap.size w W → Calls Tryd.prog 55 #[.pointer (some ⟨tb, 0, none⟩), .agg #[.int .u32 (xy.sl : Int), .int .u32 (xy.gn : Int)]] W fun e w' => e = .returned (.tuple #[.agg #[.int .u32 ((hd X.F (lkO X.F y 2)).1 : Int), .int .u32 ((hd X.F (lkO X.F y 2)).2 : Int)], .int .i64 0]) ∧ Below W.heap.size W w') := Lib.hid (fun W b => last_live (HT.out.rw.below b) hw.out.1 hw.out.2.1)
      clear hx hz hlow
      cases hl2 : lkO X.F y 2 with
      | none =>
        have hyt : y = t := by
          have h1 := ld2 hl2
          have h2 := hw.out.2.2.1
          rw [h1] at h2
          simpa using h2
        have hxe : xy.sl = ts ∧ xy.gn = tg := by
          have h1 := hw.out.1
          rw [hyt, HSP.out.2.2.2] at h1
          cases h1
          exact ⟨HTS.out.1.symm, HTS.out.2.symm⟩
        rw [hl2, hd_none] at HLA
        have q0 : hEq 0 0 0 0 = true := hEq_true rfl rfl
        have HXE := Lib.hid hxe
        clear hl2 ld1 ld2 hyt hxe
        go_wp2_with (go_at_call 55; refine (HLA.out _ HLO.out).mono ?_; rintro e w3 ⟨rfl, b3⟩; have HB3 := Lib.hid (HLO.out.trans (b3.mono HLO.out.size)); have n0 := (HZ.out.below HB3.out).a; have n1 := (HZ.out.below HB3.out).b; have nl := cell_lt n0; have h1 := (b3.block _ (lt_of_some HY.out.1)).trans HY.out.1; have h3 := (b3.block _ (lt_of_some HY.out.2)).trans HY.out.2; have d0 := cell_blk h1 0 rfl; have d1 := cell_blk h1 1 rfl; have dl := lt_of_some h1; have e0 := cell_blk h3 0 rfl; have e1 := cell_blk h3 1 rfl; have m0 := free_blk h3 0; have m1 := free_blk h3 1; have l3 := lt_of_some h3; have HX3 := Lib.hid h3; clear b3 h1 h3)
        have hF := alloc_blk (set_blk (set_blk HX3.out 0 (.int .u32 (xy.sl : Int))) 1 (.int .u32 (xy.gn : Int))) (.cells #[.int .u32 0, .int .u32 0] 31)
        have z0 := cell_blk hF 0 rfl
        have z1 := cell_blk hF 1 rfl
        try rw [Exit.noGoto_ret]
        exact bodyPost_ret (v := .tuple #[.agg #[.int .u32 (xy.sl : Int), .int .u32 (xy.gn : Int)], .int .i64 0]) (by simp [results, Tryd.results24, go_sem, z0, z1]) rfl ⟨by rw [HXE.out.1, HXE.out.2], ((HB3.out.setCell (by simp only; omega) _).setCell (by simp only; omega) _).alloc (by simp; exact HB3.out.size) _⟩
      | some c2 =>
        have h9 := ld1 c2 hl2
        obtain ⟨xc, hxc, hxcl⟩ := ok.out.last_live hl2
        have hcm : c2 ∈ dnOf X.F (some y) := List.mem_of_getLast? hl2
        have hml := preD_kid_len ok.out hyl hcm
        rw [hl2, hd_some hxc] at HLA
        obtain ⟨nb', P', hm', hat', hsl', hs2', hg2'⟩ := HT.out.rw.at_live hxc hxcl
        have q2 : hEq (xc.sl : Int) (xc.gn : Int) 0 0 = false := hEq_false (.inl (by omega))
        have HNX := Lib.hid (And.intro hxc (And.intro hxcl (h9 ▸ hw.out.2.2.1)))
        have HM : Hid ((preD X.F c2).length < gk) := Lib.hid (by rw [← hw.out.2.2.2.1]; exact hml)
        clear hw hl2 ld1 ld2 h9 hxc hxcl hcm hml hm' hat' hs2' hg2'
        go_wp2_with (go_at_call 55; refine (HLA.out _ HLO.out).mono ?_; rintro e w3 ⟨rfl, b3⟩; have HB3 := Lib.hid (HLO.out.trans (b3.mono HLO.out.size)); have n0 := (HZ.out.below HB3.out).a; have n1 := (HZ.out.below HB3.out).b; have nl := cell_lt n0; have h1 := (b3.block _ (lt_of_some HY.out.1)).trans HY.out.1; have h3 := (b3.block _ (lt_of_some HY.out.2)).trans HY.out.2; have d0 := free_blk h1 0; have d1 := free_blk h1 1; have d2 := cell_blk h1 0 rfl; have d3 := cell_blk h1 1 rfl; have dl := lt_of_some h1; have HX3 := Lib.hid (And.intro h1 h3); clear b3 h1 h3)
        go_roundg (preD X.F c2).length
        case measure => exact HM.out
        case rel => exact ⟨c2, xc, Lib.hid ⟨HNX.out.1, HNX.out.2.1, HNX.out.2.2, rfl, ((HB3.out.setCell HB2.out.size _).setCell HB2.out.size _).alloc (by simp; exact HB3.out.size) _⟩, alloc_blk (set_blk (set_blk HX3.out.1 0 _) 1 _) _, alloc_blk (by rw [heap_setCell_other _ _ _ _ hne, heap_setCell_other _ _ _ _ hne]; exact HX3.out.2) _⟩
end
end Go.Proofs.YtelhnaphkbpakaaDoor

