/- The law's handle: by hand, or of a node of the forest. The order of a forest's nodes, each behind those beneath it; what stands behind a node in it. No program. The reference's Up: a node and all beneath it, each behind those beneath it. trail.lowest over a tree in memory: the first one of the order from beneath. -/
import Derived.Deep.RegionHeld3
import Derived.Test.YtelhnaphkbpakaaDoorMw38
namespace Go.Proofs.YtelhnaphkbpakaaDoor
open Go.RowKit
set_option linter.unusedVariables false
set_option maxRecDepth 100000

section
variable {B : Nat} {Q : Nat → Prop} {w w' : World} {fb : Nat} {F : For} {R : List RN} {rv : Value}
set_option maxHeartbeats 2000000 in
theorem handle_by (h : FoAt B Q w fb F R rv) {wh : Int} {s g : Nat} (hc : F.length = 0 ∨ wh < -1000) :
    Calls Tryd.prog 10 #[.pointer (some ⟨fb, 0, none⟩), .int .i64 wh, .agg #[.int .u32 (s : Int), .int .u32 (g : Int)]] w fun e w' => e = .returned (.agg #[.int .u32 (s : Int), .int .u32 (g : Int)]) ∧ Below w.heap.size w w' := by
  have b0 := h.b0
  have hl := h.len
  obtain ⟨ra, rc, hrv⟩ := h.shape
  rw [hrv] at b0
  obtain ⟨n, hn⟩ : ∃ n, n = F.length := ⟨_, rfl⟩
  rw [← hn] at b0 hc
  have l0 := cell_lt b0
  clear h hl hrv hn
  by_cases hz : n = 0
  · subst hz
    clear hc
    go_enter Tryd.func10, Tryd.ntmps10
    go_wp2_with fail
    have hX4 := alloc2_blk w (.cells #[.int .u32 (s : Int), .int .u32 (g : Int)] 31) (.cells #[.int .u32 (s : Int), .int .u32 (g : Int)] 31)
    have z0 := cell_blk hX4 0 rfl
    have z1 := cell_blk hX4 1 rfl
    exact bodyPost_ret (v := .agg #[.int .u32 (s : Int), .int .u32 (g : Int)]) (by simp [results, Tryd.results10, go_sem, z0, z1]) rfl ⟨rfl, ((Below.refl _ w).alloc (Nat.le_refl _) _).alloc (by simp) _⟩
  · have hw := hc.resolve_left hz
    have q1 : ((n : Int) == 0) = false := by simp [hz]
    have q2 : decide (wh < -1000) = true := decide_eq_true hw
    have q3 : ¬ ((n : Int) = 0) := by omega
    clear hc
    go_enter Tryd.func10, Tryd.ntmps10
    go_wp2_with fail
    have hX4 := alloc2_blk w (.cells #[.int .u32 (s : Int), .int .u32 (g : Int)] 31) (.cells #[.int .u32 (s : Int), .int .u32 (g : Int)] 31)
    have z0 := cell_blk hX4 0 rfl
    have z1 := cell_blk hX4 1 rfl
    exact bodyPost_ret (v := .agg #[.int .u32 (s : Int), .int .u32 (g : Int)]) (by simp [results, Tryd.results10, go_sem, z0, z1]) rfl ⟨rfl, ((Below.refl _ w).alloc (Nat.le_refl _) _).alloc (by simp) _⟩
set_option maxHeartbeats 2000000 in
theorem handle_of (h : FoAt B Q w fb F R rv) {wh : Int} (hwh : -9223372036854775808 ≤ wh ∧ wh ≤ 9223372036854775807) {s g : Nat} (hn0 : 0 < F.length) (h1 : ¬ wh < -1000) {x : FN} (hx : F[pick8 wh F.length]? = some x) :
    Calls Tryd.prog 10 #[.pointer (some ⟨fb, 0, none⟩), .int .i64 wh, .agg #[.int .u32 (s : Int), .int .u32 (g : Int)]] w fun e w' => e = .returned (.agg #[.int .u32 (x.sl : Int), .int .u32 (x.gn : Int)]) ∧ Below w.heap.size w w' := by
  have b0 := h.b0
  have hbig := h.big
  obtain ⟨gr, cap, P, dv, e, hR, y0, y1, y8, y9, y10⟩ := h.get hx
  rw [e] at b0
  have hpk := pick8_lt wh hn0
  have HPK := Lib.hid (fun W => pick8_calls W wh F.length hwh hn0 (by omega))
  obtain ⟨n, hn⟩ : ∃ n, n = F.length := ⟨_, rfl⟩
  obtain ⟨k, hk⟩ : ∃ k, k = pick8 wh F.length := ⟨_, rfl⟩
  rw [← hk] at y0 y1 hpk HPK
  rw [← hn] at b0 hn0 hbig hpk HPK
  obtain ⟨a, ha⟩ : ∃ a, a = x.sl := ⟨_, rfl⟩
  obtain ⟨b, hb⟩ : ∃ a, a = x.gn := ⟨_, rfl⟩
  rw [← ha] at y0 ⊢
  rw [← hb] at y1 ⊢
  have l0 := cell_lt b0
  have l1 := cell_lt y0
  have q1 : ((n : Int) == 0) = false := by simp; omega
  have q2 : decide (wh < -1000) = false := decide_eq_false h1
  have q3 : ¬ ((n : Int) = 0) := by omega
  have HC : Hid (∀ W, Below w.heap.size w W → W.cell? ⟨fb, 0, none⟩ = some (.slice (some ⟨gr, 0, none⟩) n cap) ∧ W.cell? ⟨gr, k * 11, none⟩ = some (.int .u32 (a : Int)) ∧ W.cell? ⟨gr, k * 11 + 1, none⟩ = some (.int .u32 (b : Int))) := Lib.hid (fun W bb => ⟨(bb.cell (p := ⟨fb, 0, none⟩) l0).trans b0, (bb.cell (p := ⟨gr, k * 11, none⟩) l1).trans y0, (bb.cell (p := ⟨gr, k * 11 + 1, none⟩) l1).trans y1⟩)
  have hlo : Below w.heap.size w ((w.alloc (.cells #[.int .u32 (s : Int), .int .u32 (g : Int)] 31)).alloc (.cells #[.int .u32 0, .int .u32 0] 31)) := ((Below.refl _ w).alloc (Nat.le_refl _) _).alloc (by simp) _
  have HLO := Lib.hid hlo
  have HZ := Lib.hid (alloc2_blk w (.cells #[.int .u32 (s : Int), .int .u32 (g : Int)] 31) (.cells #[.int .u32 0, .int .u32 0] 31))
  clear h e hR y8 y9 y10 hx hn hk ha hb hlo
  go_enter Tryd.func10, Tryd.ntmps10
  go_wp2_with fail
  generalize hV : (w.alloc (.cells #[.int .u32 (s : Int), .int .u32 (g : Int)] 31)).alloc (.cells #[.int .u32 0, .int .u32 0] 31) = V at *
  have HVC := Lib.hid (HC.out V HLO.out)
  have HLD := Lib.hid HLO.out.drew
  have HZD : Hid (V.drew.heap[w.heap.size + 1]? = some (.cells #[.int .u32 0, .int .u32 0] 31 (0, 0))) := Lib.hid HZ.out
  go_region_held3 (fun W => W.cell? ⟨fb, 0, none⟩ = some (.slice (some ⟨gr, 0, none⟩) n cap) ∧ W.cell? ⟨gr, k * 11, none⟩ = some (.int .u32 (a : Int)) ∧ W.cell? ⟨gr, k * 11 + 1, none⟩ = some (.int .u32 (b : Int))) (first | exact HC.out _ ((HB1.out.setCell (Nat.le_succ _) _).setCell (Nat.le_succ _) _) | exact HC.out _ HB1.out | exact HVC.out) (first | (go_at_call 30; refine (HPK.out _).mono ?_; rintro e w1 ⟨rfl, b1⟩; have HB1 := Lib.hid (HLD.out.trans (b1.mono HLD.out.size)); have hz := (b1.block _ (lt_of_some HZD.out)).trans HZD.out; have r0 := cell_blk hz 0 rfl; have r1 := cell_blk hz 1 rfl; have f0 := free_blk hz 0; have f1 := free_blk hz 1; have lr := lt_of_some hz; have HZ1 := Lib.hid hz; clear hz))
  go_wp2_with fail
  have hF := set_blk (set_blk HZ1.out 0 (.int .u32 (a : Int))) 1 (.int .u32 (b : Int))
  have z0 := cell_blk hF 0 rfl
  have z1 := cell_blk hF 1 rfl
  try rw [Exit.noGoto_ret]
  exact bodyPost_ret (v := .agg #[.int .u32 (a : Int), .int .u32 (b : Int)]) (by simp [results, Tryd.results10, go_sem, z0, z1]) rfl ⟨rfl, (HB1.out.setCell (Nat.le_succ _) _).setCell (Nat.le_succ _) _⟩
end
end Go.Proofs.YtelhnaphkbpakaaDoor

namespace Go.Proofs.YtelhnaphkbpakaaDoor
set_option linter.unusedVariables false

def post (F : For) : Nat → Nat → List Nat
  | 0, k => [k]
  | n + 1, k => (dnOf F (some k)).flatMap (post F n) ++ [k]
def postD (F : For) (k : Nat) : List Nat := post F F.length k
theorem post_stable {F : For} (ok : FOk F) : ∀ (n k : Nat) (l : List Nat), Chain F k l → F.length ≤ n + l.length → post F n k = post F (n + 1) k := by
  intro n
  induction n with
  | zero =>
    intro k l hc hl
    show [k] = (dnOf F (some k)).flatMap (post F 0) ++ [k]
    have : dnOf F (some k) = [] := by
      cases e : dnOf F (some k) with
      | nil => rfl
      | cons c t =>
        have h1 := hc.kid (ok.kid_up (k := k) (c := c) (by rw [e]; simp)).1
        have := h1.len
        simp at this hl
        omega
    rw [this]; rfl
  | succ n ih =>
    intro k l hc hl
    show (dnOf F (some k)).flatMap (post F n) ++ [k] = (dnOf F (some k)).flatMap (post F (n + 1)) ++ [k]
    congr 1
    refine flatMap_cg (fun c hm => ?_)
    exact ih c (c :: l) (hc.kid (ok.kid_up hm).1) (by simp; omega)
theorem postD_eq {F : For} (ok : FOk F) {k : Nat} (hk : k < F.length) : postD F k = (dnOf F (some k)).flatMap (postD F) ++ [k] := by
  obtain ⟨l, hl⟩ := ok.acyc k _ (List.getElem?_eq_getElem hk)
  unfold postD
  exact post_stable ok _ k l hl (by omega)
theorem flatMap_perm {l : List Nat} {f g : Nat → List Nat} (h : ∀ c ∈ l, (f c).Perm (g c)) : (l.flatMap f).Perm (l.flatMap g) := by
  induction l with
  | nil => exact List.Perm.refl _
  | cons x l ih => rw [List.flatMap_cons, List.flatMap_cons]; exact (h x (by simp)).append (ih (fun c hc => h c (List.mem_cons_of_mem _ hc)))
theorem postD_perm {F : For} (ok : FOk F) : ∀ k, k < F.length → (postD F k).Perm (preD F k) := by
  refine ok.kids_ind (fun k hk ih => ?_)
  rw [postD_eq ok hk, preD_eq ok hk]
  exact (List.perm_append_comm).trans ((flatMap_perm ih).cons k)
theorem postD_nodup {F : For} (ok : FOk F) {k : Nat} (hk : k < F.length) : (postD F k).Nodup := (postD_perm ok k hk).nodup_iff.2 (preD_nodup ok k hk)
theorem postD_mem {F : For} (ok : FOk F) {k m : Nat} (hk : k < F.length) : m ∈ postD F k ↔ m ∈ preD F k := (postD_perm ok k hk).mem_iff
theorem postD_len {F : For} (ok : FOk F) {k : Nat} (hk : k < F.length) : (postD F k).length = (preD F k).length := (postD_perm ok k hk).length_eq
theorem postD_ne {F : For} (ok : FOk F) {k : Nat} (hk : k < F.length) : postD F k ≠ [] := by rw [postD_eq ok hk]; simp
/-- Where a node stands in two ways of one list that has it once. -/
theorem once_split {l p q p' q' : List Nat} {m : Nat} (hn : l.Nodup) (h : l = p ++ m :: q) (h' : l = p' ++ m :: q') : p = p' ∧ q = q' := by
  have e1 : l.idxOf m = p.length := by
    rw [h]; refine idx_split (fun hm => ?_)
    rw [h] at hn
    exact (List.nodup_append.1 hn).2.2 m hm m (by simp) rfl
  have e2 : l.idxOf m = p'.length := by
    rw [h']; refine idx_split (fun hm => ?_)
    rw [h'] at hn
    exact (List.nodup_append.1 hn).2.2 m hm m (by simp) rfl
  have := List.append_inj (h.symm.trans h') (by omega)
  exact ⟨this.1, by simpa using this.2⟩
theorem flat_head2 {l : List Nat} {f : Nat → List Nat} {c : Nat} {t : List Nat} (h : l = c :: t) (hc : f c ≠ []) (r : List Nat) : (l.flatMap f ++ r).head? = (f c).head? := by
  subst h
  rw [List.flatMap_cons, List.append_assoc]
  cases e : f c with
  | nil => exact absurd e hc
  | cons x y => rfl
/-- The first one of the order: the first of the first child's, or the node. -/
theorem post_head {F : For} (ok : FOk F) {k : Nat} (hk : k < F.length) : (∀ c, lkO F k 1 = some c → (postD F k).head? = (postD F c).head?) ∧ (lkO F k 1 = none → postD F k = [k]) := by
  rw [postD_eq ok hk]
  refine ⟨fun c hc => ?_, fun h => ?_⟩
  · have hc : (dnOf F (some k)).head? = some c := hc
    obtain ⟨t, ht⟩ : ∃ t, dnOf F (some k) = c :: t := by
      cases e : dnOf F (some k) with
      | nil => rw [e] at hc; cases hc
      | cons x t => rw [e] at hc; injection hc with hc; subst hc; exact ⟨t, rfl⟩
    exact flat_head2 ht (postD_ne ok (ok.kid_up (k := k) (c := c) (by rw [ht]; simp)).2) _
  · have h : (dnOf F (some k)).head? = none := h
    have h0 : dnOf F (some k) = [] := by
      cases e : dnOf F (some k) with
      | nil => rfl
      | cons x t => rw [e] at h; cases h
    rw [h0]; rfl
theorem post_last {F : For} (ok : FOk F) {k : Nat} (hk : k < F.length) {p q : List Nat} (h : postD F k = p ++ k :: q) : q = [] := by
  have h' := postD_eq ok hk
  exact (once_split (p' := (dnOf F (some k)).flatMap (postD F)) (q' := []) (postD_nodup ok hk) h h').2
/-- What stands behind a node in the order: the first of its sibling's behind it, or its parent. -/
theorem post_step {F : For} (ok : FOk F) : ∀ v, v < F.length → ∀ {m : Nat} {p q : List Nat}, postD F v = p ++ m :: q → m ≠ v → (∀ b, lkO F m 4 = some b → q.head? = (postD F b).head?) ∧ (lkO F m 4 = none → q.head? = upOf F m) := by
  refine ok.kids_ind (fun v hv ih m p q hs hmv => ?_)
  have hnd := postD_nodup ok hv
  have hm : m ∈ postD F v := by rw [hs]; simp
  rw [postD_eq ok hv] at hm
  have hm := (List.mem_append.1 hm).resolve_right (fun h => hmv (by simpa using h))
  obtain ⟨c, hc, hm⟩ := List.mem_flatMap.1 hm
  obtain ⟨x, y, hxy⟩ := List.append_of_mem hc
  obtain ⟨p', q', hpq⟩ := List.append_of_mem hm
  have hcu := ok.kid_up hc
  have h2 : postD F v = (x.flatMap (postD F) ++ p') ++ m :: (q' ++ (y.flatMap (postD F) ++ [v])) := by
    rw [postD_eq ok hv, hxy, List.flatMap_append, List.flatMap_cons, hpq]
    simp
  obtain ⟨_, hq⟩ := once_split hnd hs h2
  subst hq
  by_cases hmc : m = c
  · subst hmc
    obtain rfl := post_last ok hcu.2 hpq
    have hnx : m ∉ x := by
      have h8 : (dnOf F (some v)).Nodup := by
        unfold dnOf
        simp only [Option.bind_some]
        cases hy : F[v]? with
        | none => exact List.nodup_nil
        | some z => exact ok.nd v z hy
      rw [hxy] at h8
      exact fun h => (List.nodup_append.1 h8).2.2 m h m (by simp) rfl
    have h7 : lkO F m 4 = y.head? := by
      show nextOf (dnOf F (upOf F m)) m = _
      rw [hcu.1, hxy]
      exact next_split hnx
    rw [h7, List.nil_append]
    cases y with
    | nil => exact ⟨fun b h => (by cases h), fun _ => (by rw [hcu.1]; rfl)⟩
    | cons b t =>
      refine ⟨fun b' h => ?_, fun h => (by cases h)⟩
      injection h with h
      subst h
      exact flat_head2 rfl (postD_ne ok (ok.kid_up (k := v) (c := b) (by rw [hxy]; simp)).2) _
  · have hq' : q' ≠ [] := by
      intro e
      subst e
      have h3 := postD_eq ok hcu.2
      have h4 : (postD F c).getLast? = some m := by rw [hpq]; simp
      rw [h3] at h4
      simp at h4
      exact hmc h4.symm
    obtain ⟨i1, i2⟩ := ih c hc hpq hmc
    have hh : (q' ++ (y.flatMap (postD F) ++ [v])).head? = q'.head? := by
      cases q' with
      | nil => exact absurd rfl hq'
      | cons a t => rfl
    rw [hh]
    exact ⟨i1, i2⟩
end Go.Proofs.YtelhnaphkbpakaaDoor

namespace Go.Proofs.YtelhnaphkbpakaaDoor
open Go.RowKit
set_option linter.unusedVariables false
set_option maxRecDepth 100000

/-- The order from beneath as far as j children. -/
def pof (F : For) (d : List Nat) (j : Nat) : List Nat := (d.take j).flatMap (postD F)
theorem pof_next {F : For} {d : List Nat} {j c : Nat} (h : d[j]? = some c) : pof F d (j + 1) = pof F d j ++ postD F c := by
  unfold pof
  rw [List.take_add_one, h]
  simp
theorem pof_end {F : For} (ok : FOk F) {k : Nat} (hk : k < F.length) {x : FN} (hx : F[k]? = some x) : postD F k = pof F x.down x.down.length ++ [k] := by
  rw [postD_eq ok hk]
  have e : dnOf F (some k) = x.down := by unfold dnOf; simp [hx]
  rw [e]
  unfold pof
  rw [List.take_length]
theorem postD_le {F : For} (ok : FOk F) {k : Nat} (hk : k < F.length) : (postD F k).length ≤ F.length := by rw [postD_len ok hk]; exact preD_len ok hk
theorem pof_len {F : For} (ok : FOk F) {k : Nat} (hk : k < F.length) {x : FN} (hx : F[k]? = some x) (j : Nat) : (pof F x.down j).length + 1 ≤ F.length := by
  refine Nat.le_trans ?_ (postD_le ok hk)
  rw [pof_end ok hk hx]
  unfold pof
  conv => rhs; rw [List.take_length, ← List.take_append_drop j x.down, List.flatMap_append]
  simp

section
variable {B : Nat} {Q : Nat → Prop} {w w' : World} {fb : Nat} {F : For} {R : List RN} {rv : Value}
set_option maxHeartbeats 4000000 in
theorem rup_calls (h : FoAt B Q w fb F R rv) (ok : FOk F) : ∀ k, k < F.length → ∀ W, Below w.heap.size w W → Calls Tryd.prog 32 #[.pointer (some ⟨fb, 0, none⟩), .int .i64 (k : Int)] W fun e w' => ∃ v, e = .returned v ∧ w'.ownsRow W.heap.size 3 1 v (postD F k).length (icells (postD F k)) ∧ Below W.heap.size W w' := by
  refine ok.kids_ind (fun k hk ih W hW => ?_)
  have HOK := Lib.hid ok
  have h := h.below hW
  have hbig := h.big
  have b0 := h.b0
  obtain ⟨x, hx⟩ : ∃ x, F[k]? = some x := ⟨_, List.getElem?_eq_getElem hk⟩
  obtain ⟨g, cap, P, dv, e, hR, y0, y1, y8, y9, y10⟩ := h.get hx
  rw [e] at b0
  have l0 := lt_of_some h.blk
  obtain ⟨cur, hcur, _⟩ := rwBlk (by have := h.row; rw [h.len, e] at this; exact this)
  have l1 := lt_of_some hcur
  have HLB : Hid (∀ W', Below W.heap.size W W' → W'.cell? ⟨fb, 0, none⟩ = some (.slice (some ⟨g, 0, none⟩) F.length cap) ∧ W'.cell? ⟨g, k * 11 + 9, none⟩ = some dv) := Lib.hid (fun W' b => ⟨(b.cell (p := ⟨fb, 0, none⟩) l0).trans b0, (b.cell (p := ⟨g, _, none⟩) l1).trans y9⟩)
  have H := Lib.hid h
  have HK : Hid (∀ W', Below W.heap.size W W' → ∀ (j c : Nat), x.down[j]? = some c → ∃ dg dcap, dv = .slice (some ⟨dg, 0, none⟩) x.down.length dcap ∧ W'.cell? ⟨dg, j, none⟩ = some (.int .i64 (c : Int))) := Lib.hid (fun W' b j c hc => (H.out.below b).kid (List.mem_of_getElem? hR) hc)
  have hdn : dnOf F (some k) = x.down := by unfold dnOf; simp [hx]
  have HIH : Hid (∀ c ∈ x.down, ∀ W', Below W.heap.size W W' → Calls Tryd.prog 32 #[.pointer (some ⟨fb, 0, none⟩), .int .i64 (c : Int)] W' fun e w' => ∃ v, e = .returned v ∧ w'.ownsRow W'.heap.size 3 1 v (postD F c).length (icells (postD F c)) ∧ Below W'.heap.size W' w') := Lib.hid (fun c hc W' b => ih c (by rw [hdn]; exact hc) W' (hW.trans (b.mono hW.size)))
  have HPD : Hid (∀ c ∈ x.down, 0 < (postD F c).length ∧ (postD F c).length ≤ F.length) := Lib.hid (fun c hc => by
    have hcl := (HOK.out.kid_up (k := k) (c := c) (by rw [hdn]; exact hc)).2
    refine ⟨?_, postD_le HOK.out hcl⟩
    rw [postD_eq HOK.out hcl]; simp)
  have HX := Lib.hid (And.intro hk hx)
  have HPL : Hid (∀ j, (pof F x.down j).length + 1 ≤ F.length) := Lib.hid (fun j => pof_len HOK.out hk hx j)
  have HEND : Hid (postD F k = pof F x.down x.down.length ++ [k]) := Lib.hid (pof_end HOK.out hk hx)
  obtain ⟨da0, dcap0, hdu⟩ := h.dshape (List.mem_of_getElem? hR)
  have hdu : dv = .slice da0 x.down.length dcap0 := hdu
  obtain ⟨i0, hi0, hz0, hz1, hz2⟩ := info_parts infoInt
  obtain ⟨n, hnn⟩ : ∃ n, n = x.down.length := ⟨_, rfl⟩
  have HNN := Lib.hid hnn
  have hnF : n ≤ F.length := by
    have := HOK.out.sibs
    have h2 := nodup_bound F.length x.down (HOK.out.nd k x hx) (fun m hm => (HOK.out.kid_up (k := k) (c := m) (by rw [hdn]; exact hm)).2)
    omega
  rw [← hnn] at hdu
  have HDU := Lib.hid hdu
  clear h hx ih hdn hR y0 y1 y8 y10 y9 b0 e hcur hnn hdu ok
  obtain ⟨len, hlen⟩ : ∃ n, n = F.length := ⟨_, rfl⟩
  rw [← hlen] at hk hbig hnF HLB HPL HPD
  have HLEN := Lib.hid hlen
  clear hlen
  go_enter Tryd.func32, Tryd.ntmps32
  go_wp2_with fail
  go_loopg [5, 6] n (fun m v5 v6 wr => ∃ (j : Nat), v6 = .int .i64 (j : Int) ∧ Hid (j + m = n ∧ Below W.heap.size W wr ∧ wr.ownsRow W.heap.size 3 1 v5 (pof F x.down j).length (icells (pof F x.down j))))
  case atStart => exact ⟨0, rfl, Lib.hid ⟨by omega, Below.refl _ _, World.ownsRow_nil _ _ _ _⟩⟩
  case round =>
    obtain ⟨j, rfl, hw⟩ := hrel
    have b0 := (HLB.out wr hw.out.2.1).1
    have z9 := (HLB.out wr hw.out.2.1).2
    have hsum := hw.out.1
    have hs1 := hw.out.2.1.size
    by_cases hj : j < n
    · obtain ⟨c, hc⟩ : ∃ c, x.down[j]? = some c := ⟨_, List.getElem?_eq_getElem (by have := HNN.out; omega)⟩
      obtain ⟨dg, dcap, e, zc⟩ := HK.out wr hw.out.2.1 j c hc
      rw [e, ← HNN.out] at z9
      have hcm := List.mem_of_getElem? hc
      have ql : decide ((j : Int) < (n : Int)) = true := by simp; omega
      have wk : IntKind.i64.wrap ((j : Int) + 1) = (j : Int) + 1 := IntWalk.i64_in _ (by omega)
      have hlen := HPL.out j
      have hpd := HPD.out c hcm
      have hlen2 := HPL.out (j + 1)
      have HST : Hid (pof F x.down (j + 1) = pof F x.down j ++ postD F c) := Lib.hid (pof_next hc)
      have HCM := Lib.hid hcm
      clear e hc hcm
      generalize hpn : (pof F x.down j).length = pn at *
      generalize hcn : (postD F c).length = cn at *
      have HN := Lib.hid (And.intro hpn hcn)
      have hm1 : pn + cn ≤ maxLen := by unfold maxLen; omega
      have hm2 : (pn + cn) * 8 ≤ 140737488355328 := by omega
      clear hpn hcn
      have HCL : Hid (∀ W', Below W.heap.size W W' → Calls Tryd.prog 32 #[.pointer (some ⟨fb, 0, none⟩), .int .i64 (c : Int)] W' fun e w' => ∃ g1 c1, e = .returned (.slice (some ⟨g1, 0, none⟩) cn c1) ∧ (∀ j u, (icells (postD F c))[j]? = some u → w'.cell? ((⟨g1, 0, none⟩ : Addr).add j) = some u) ∧ Below W'.heap.size W' w') := Lib.hid (fun W' b => (HIH.out c HCM.out W' b).mono (by
        rintro e w' ⟨v, rfl, h1, h2⟩
        rw [HN.out.2] at h1
        obtain ⟨g1, c1, rfl⟩ := row_pos h1 hpd.1
        exact ⟨g1, c1, rfl, icells_add h1 HN.out.2, h2⟩))
      have tl : (icells (postD F c)).length = cn * 1 := by rw [icells_len, HN.out.2]; omega
      have HJ : Hid (j + 1 + (gk - 1) = n) := Lib.hid (by omega)
      have HM : Hid (gk - 1 < gk) := Lib.hid (by omega)
      go_wp2_with (first | (go_at_call 32; refine (HCL.out _ hw.out.2.1).mono ?_; rintro e w1 ⟨g1, c1, rfl, hc1, hb1⟩; have hown1 := row_below hw.out.2.2 hb1; have hb2 := hw.out.2.1.trans (hb1.mono hs1); have hs2 := hb2.size; have HC1 := Lib.hid hc1; clear hc1) | (at_builtin; (refine wpList_append_any _ rfl (.tmp 20) (.tmp 33) 67 rfl W.heap.size 3 i0 _ 1 8 Tryd.underlying67 hi0 hz0 hz1 hz2 rfl Nat.one_pos _ pn (icells (pof F x.down j)) rfl hown1 (some ⟨g1, 0, none⟩) cn c1 (icells (postD F c)) rfl tl (.inr ⟨_, rfl, HC1.out⟩) (icells_one _) hm1 hm2 hs2 ?_; intro a3 c3 w3 hown3 hg3; have hb3 : Below W.heap.size W w3 := hb2.trans (grown_below hg3 (fun x e => (hown1.lt x e).1) hs2))))
      have HV : Hid (w3.ownsRow W.heap.size 3 1 (.slice a3 (pn + cn) c3) (pof F x.down (j + 1)).length (icells (pof F x.down (j + 1)))) := Lib.hid (by rw [HST.out, icells_app, List.length_append, HN.out.1, HN.out.2]; exact hown3)
      go_roundg (gk - 1)
      case measure => exact HM.out
      case rel => exact ⟨j + 1, by go_num, Lib.hid ⟨HJ.out, hb3, HV.out⟩⟩
    · have hjn : j = n := by omega
      subst hjn
      have ql : decide ((j : Int) < (j : Int)) = false := by simp
      have HEN : Hid (postD F k = pof F x.down j ++ [k]) := Lib.hid (by rw [HEND.out, ← HNN.out])
      have hpl := HPL.out j
      have hrow := hw.out.2.2
      generalize hpn : (pof F x.down j).length = pn at *
      have HN := Lib.hid hpn
      have hm1 : pn + 1 ≤ maxLen := by unfold maxLen; omega
      have hm2 : (pn + 1) * 8 ≤ 140737488355328 := by omega
      have hs1a : ∀ o, W.heap.size ≤ (wr.alloc o).heap.size := fun o => Nat.le_trans hs1 (by simp)
      have HLO := Lib.hid hw.out.2.1
      clear hpn hpl
      rw [HDU.out] at z9
      go_wp2_with (at_builtin; refine wpList_append_lies _ rfl (.tmp 35) (.tmp 37) 67 rfl W.heap.size 3 i0 _ 1 8 Tryd.underlying67 hi0 hz0 hz1 hz2 rfl Nat.one_pos _ pn _ rfl (hrow.alloc _) ⟨wr.heap.size, 0, none⟩ 1 1 [.int .i64 (k : Int)] rfl rfl (World.news_of_block (cs := #[.int .i64 (k : Int)]) (t := 3) (fr := (0, 0)) (Go.heap_alloc_new wr _)) (icells_one [k]) Nat.one_pos hm1 hm2 (hs1a _) (wr.heap.size + 1) (by simp) ?_; intro g2 c2 w2 hown2 hg2 hat2 hlt2; have hb2 : Below W.heap.size W w2 := (HLO.out.alloc hs1 _).trans (grown_below hg2 (fun x e => (hrow.lt x e).1) (hs1a _)))
      try rw [Exit.noGoto_ret]
      go_ret
      refine ⟨_, rfl, ?_, hb2⟩
      rw [HEN.out, List.length_append, HN.out, icells_app]
      exact hown2
end
end Go.Proofs.YtelhnaphkbpakaaDoor

namespace Go.Proofs.YtelhnaphkbpakaaDoor
open Go.RowKit
set_option linter.unusedVariables false
set_option maxRecDepth 100000

section
variable {B : Nat} {Q : Nat → Prop} {w w' : World} {tb : Nat} {X : TX}
set_option maxHeartbeats 8000000 in
theorem lowestT_calls (h : TreeAt B Q w tb X) (hz : NoneAt w) {k t : Nat} {xk xt : FN} (hk : X.F[k]? = some xk) (hkl : xk.live = true) (ht : (postD X.F k).head? = some t) (hxt : X.F[t]? = some xt) :
    Calls Tryd.prog 58 #[.pointer (some ⟨tb, 0, none⟩), .agg #[.int .u32 (xk.sl : Int), .int .u32 (xk.gn : Int)]] w fun e w' => e = .returned (.agg #[.int .u32 (xt.sl : Int), .int .u32 (xt.gn : Int)]) ∧ Below w.heap.size w w' := by
  have HT := Lib.hid h
  have HZ := Lib.hid hz
  have ok := Lib.hid h.fok
  have H0 := Lib.hid (And.intro hk (And.intro hkl (And.intro ht hxt)))
  clear h hz hk hkl ht
  obtain ⟨ts, hts⟩ : ∃ s, s = xt.sl := ⟨_, rfl⟩
  obtain ⟨tg, htg⟩ : ∃ s, s = xt.gn := ⟨_, rfl⟩
  rw [← hts, ← htg]
  have HTS := Lib.hid (And.intro hts (And.intro htg hxt))
  clear hts htg hxt
  obtain ⟨s, hs⟩ : ∃ s, s = xk.sl := ⟨_, rfl⟩
  obtain ⟨g, hg⟩ : ∃ s, s = xk.gn := ⟨_, rfl⟩
  rw [← hs, ← hg]
  have HS := Lib.hid (And.intro hs hg)
  clear hs hg
  have HA := Lib.hid (And.intro (alloc_blk (Go.heap_alloc_new w (.cells #[.int .u32 (s : Int), .int .u32 (g : Int)] 31)) (.cells #[.int .u32 0, .int .u32 0] 31)) (And.intro (alloc2_blk w (.cells #[.int .u32 (s : Int), .int .u32 (g : Int)] 31) (.cells #[.int .u32 0, .int .u32 0] 31)) (((Below.refl _ w).alloc (Nat.le_refl _) (.cells #[.int .u32 (s : Int), .int .u32 (g : Int)] 31)).alloc (by simp) (.cells #[.int .u32 0, .int .u32 0] 31))))
  have WARM : True := trivial
  go_enter Tryd.func58, Tryd.ntmps58
  go_wp2_with fail
  go_loopg [6] (preD X.F k).length (fun n v wr => ∃ (y : Nat) (xy : FN), Hid (X.F[y]? = some xy ∧ xy.live = true ∧ (postD X.F y).head? = some t ∧ (preD X.F y).length = n ∧ Below w.heap.size w wr) ∧ wr.heap[w.heap.size]? = some (.cells #[.int .u32 (xy.sl : Int), .int .u32 (xy.gn : Int)] 31 (0, 0)) ∧ wr.heap[w.heap.size + 1]? = some (.cells #[.int .u32 0, .int .u32 0] 31 (0, 0)))
  case atStart => exact ⟨k, xk, Lib.hid ⟨H0.out.1, H0.out.2.1, H0.out.2.2.1, rfl, HA.out.2.2⟩, by rw [← HS.out.1, ← HS.out.2]; exact HA.out.1, HA.out.2.1⟩
  case round =>
    obtain ⟨y, xy, hw, hx, hz⟩ := hrel
    have x0 := cell_blk hx 0 rfl
    have x1 := cell_blk hx 1 rfl
    have u0 := cell_blk hz 0 rfl
    have u1 := cell_blk hz 1 rfl
    have f0 := free_blk hz 0
    have f1 := free_blk hz 1
    have g0 := free_blk hx 0
    have g1' := free_blk hx 1
    have lx := lt_of_some hx
    have lz := lt_of_some hz
    have HY := Lib.hid (And.intro hx hz)
    have hlow := hw.out.2.2.2.2
    have HLO := Lib.hid hlow
    have hsz := hlow.size
    have hyl := (List.getElem?_eq_some_iff.1 hw.out.1).1
    obtain ⟨ld1, ld2⟩ := post_head ok.out hyl
    have HLA : Hid (∀ W, Below w.heap.size w W → Calls Tryd.prog 87 #[.pointer (some ⟨tb, 0, none⟩), .agg #[.int .u32 (xy.sl : Int), .int .u32 (xy.gn : Int)]] W fun e w' => e = .returned (.tuple #[.agg #[.int .u32 ((hd X.F (lkO X.F y 1)).1 : Int), .int .u32 ((hd X.F (lkO X.F y 1)).2 : Int)], .int .i64 0]) ∧ Below W.heap.size W w') := Lib.hid (fun W b => first_live (HT.out.rw.below b) hw.out.1 hw.out.2.1)
    clear hx hz hlow
    cases hl2 : lkO X.F y 1 with
    | none =>
      have hyt : y = t := by
        have h1 := ld2 hl2
        have h2 := hw.out.2.2.1
        rw [h1] at h2
        simpa using h2
      have hxe : xy.sl = ts ∧ xy.gn = tg := by
        have h1 := hw.out.1
        rw [hyt, HTS.out.2.2] at h1
        cases h1
        exact ⟨HTS.out.1.symm, HTS.out.2.1.symm⟩
      rw [hl2, hd_none] at HLA
      have q0 : hEq 0 0 0 0 = true := hEq_true rfl rfl
      have HXE := Lib.hid hxe
      clear hl2 ld1 ld2 hyt hxe
      go_wp2_with (go_at_call 87; refine (HLA.out _ HLO.out).mono ?_; rintro e w3 ⟨rfl, b3⟩; have HB3 := Lib.hid (HLO.out.trans (b3.mono HLO.out.size)); have n0 := (HZ.out.below HB3.out).a; have n1 := (HZ.out.below HB3.out).b; have nl := cell_lt n0; have h1 := (b3.block _ (lt_of_some HY.out.1)).trans HY.out.1; have h3 := (b3.block _ (lt_of_some HY.out.2)).trans HY.out.2; have d0 := cell_blk h1 0 rfl; have d1 := cell_blk h1 1 rfl; have dl := lt_of_some h1; have e0 := cell_blk h3 0 rfl; have e1 := cell_blk h3 1 rfl; have m0 := free_blk h3 0; have m1 := free_blk h3 1; have l3 := lt_of_some h3; have HX3 := Lib.hid h3; clear b3 h1 h3)
      have hF := alloc_blk (set_blk (set_blk HX3.out 0 (.int .u32 (xy.sl : Int))) 1 (.int .u32 (xy.gn : Int))) (.cells #[.int .u32 0, .int .u32 0] 31)
      have z0 := cell_blk hF 0 rfl
      have z1 := cell_blk hF 1 rfl
      try rw [Exit.noGoto_ret]
      exact bodyPost_ret (v := .agg #[.int .u32 (xy.sl : Int), .int .u32 (xy.gn : Int)]) (by simp [results, Tryd.results58, go_sem, z0, z1]) rfl ⟨by rw [HXE.out.1, HXE.out.2], ((HB3.out.setCell (by simp only; omega) _).setCell (by simp only; omega) _).alloc (by simp; exact HB3.out.size) _⟩
    | some c2 =>
      have h9 := ld1 c2 hl2
      obtain ⟨xc, hxc, hxcl⟩ := ok.out.first_live hl2
      have hcm : c2 ∈ dnOf X.F (some y) := List.mem_of_head? hl2
      have hml := preD_kid_len ok.out hyl hcm
      rw [hl2, hd_some hxc] at HLA
      obtain ⟨nb', P', hm', hat', hsl', hs2', hg2'⟩ := HT.out.rw.at_live hxc hxcl
      have q2 : hEq (xc.sl : Int) (xc.gn : Int) 0 0 = false := hEq_false (.inl (by omega))
      have HNX := Lib.hid (And.intro hxc (And.intro hxcl (h9 ▸ hw.out.2.2.1)))
      have HM : Hid ((preD X.F c2).length < gk) := Lib.hid (by rw [← hw.out.2.2.2.1]; exact hml)
      clear hw hl2 ld1 ld2 h9 hxc hxcl hcm hml hm' hat' hs2' hg2'
      go_wp2_with (go_at_call 87; refine (HLA.out _ HLO.out).mono ?_; rintro e w3 ⟨rfl, b3⟩; have HB3 := Lib.hid (HLO.out.trans (b3.mono HLO.out.size)); have n0 := (HZ.out.below HB3.out).a; have n1 := (HZ.out.below HB3.out).b; have nl := cell_lt n0; have h1 := (b3.block _ (lt_of_some HY.out.1)).trans HY.out.1; have h3 := (b3.block _ (lt_of_some HY.out.2)).trans HY.out.2; have d0 := free_blk h1 0; have d1 := free_blk h1 1; have d2 := cell_blk h1 0 rfl; have d3 := cell_blk h1 1 rfl; have dl := lt_of_some h1; have HX3 := Lib.hid (And.intro h1 h3); clear b3 h1 h3)
      have hne : w.heap.size + 1 ≠ w.heap.size := by omega
      go_roundg (preD X.F c2).length
      case measure => exact HM.out
      case rel => exact ⟨c2, xc, Lib.hid ⟨HNX.out.1, HNX.out.2.1, HNX.out.2.2, rfl, ((HB3.out.setCell (Nat.le_refl _) _).setCell (Nat.le_refl _) _).alloc (by simp; exact HB3.out.size) _⟩, alloc_blk (set_blk (set_blk HX3.out.1 0 _) 1 _) _, alloc_blk (by rw [heap_setCell_other _ _ _ _ hne, heap_setCell_other _ _ _ _ hne]; exact HX3.out.2) _⟩
end
end Go.Proofs.YtelhnaphkbpakaaDoor

