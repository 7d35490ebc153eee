/- awake: rows of the document's examples. -/
import Derived.Test.YtelhnaphkbpakaaMc19
namespace Go.Proofs.Ytelhnaphkbpakaa
open Go.RowKit
set_option linter.unusedVariables false
set_option maxRecDepth 100000

theorem sl16_blk {w : World} {b : Nat} {cs : Array Value} {us : List Nat} (hb : w.heap[b]? = some (.cells cs 45 (0, 0))) (hc : cs.toList = enc16 us) (hu : ∀ u ∈ us, u ≤ 65535) (hl : us.length ≤ 9223372036854775807) : Sl16 w (some ⟨b, 0, none⟩) us := by
  refine ⟨fun i u h => ⟨hu u (List.mem_of_getElem? h), b, 0, rfl, lt_of_some hb, ?_⟩, hl⟩
  have h1 : cs[i]? = some (.int .u16 (u : Int)) := by
    rw [← Array.getElem?_toList, hc]
    simp [enc16, h]
  rw [Nat.zero_add]
  exact cell_blk hb i h1
theorem sla_blk {w : World} {b : Nat} {cs : Array Value} {L : List LA} (hb : w.heap[b]? = some (.cells cs 72 (0, 0))) (hc : cs.toList = cellsA L) (hl : L.length ≤ 4611686018427387903) (hv : ∀ x ∈ L, Sl16 w x.va x.val) (hn : ∀ x ∈ L, x.name.size ≤ 9223372036854775807) : SlA w (some ⟨b, 0, none⟩) L := by
  refine ⟨fun j u h => ⟨b, 0, rfl, lt_of_some hb, ?_⟩, hl, hv, hn⟩
  rw [Nat.zero_add]
  refine cell_blk hb j ?_
  rw [← Array.getElem?_toList, hc]
  exact h

theorem named_one (c : UInt8) (h : pcAt ⟨#[c]⟩ 0 = ⟨0, 1, true, c.toNat⟩) : namedD ⟨#[c]⟩ = nmOk ⟨0, 1, true, c.toNat⟩ := by
  have e0 : pcsFrom ⟨#[c]⟩ 0 = [⟨0, 1, true, c.toNat⟩] := (pcsFrom_step ⟨#[c]⟩ 0 (by show 0 < (1 : Nat); decide)).trans (by rw [h, pcsFrom_end _ _ (by show ¬ 0 + 1 < (1 : Nat); decide)])
  unfold namedD pcs
  rw [e0]
  simp [badL, ByteArray.size]
theorem named_p : namedD ⟨#[112]⟩ = true := (named_one 112 (by kernel_rfl)).trans (by decide)
theorem named_a : namedD ⟨#[97]⟩ = true := (named_one 97 (by kernel_rfl)).trans (by decide)
theorem named_c : namedD ⟨#[99]⟩ = true := (named_one 99 (by kernel_rfl)).trans (by decide)
def nm6 : ByteArray := ⟨#[95, 58, 97, 45, 49, 46]⟩
theorem named_6 : namedD nm6 = true := by
  have e0 : pcsFrom nm6 0 = ⟨0, 1, true, 95⟩ :: pcsFrom nm6 1 := (pcsFrom_step nm6 0 (by decide)).trans (by rw [show pcAt nm6 0 = ⟨0, 1, true, 95⟩ by kernel_rfl]; rfl)
  have e1 : pcsFrom nm6 1 = ⟨1, 1, true, 58⟩ :: pcsFrom nm6 2 := (pcsFrom_step nm6 1 (by decide)).trans (by rw [show pcAt nm6 1 = ⟨1, 1, true, 58⟩ by kernel_rfl]; rfl)
  have e2 : pcsFrom nm6 2 = ⟨2, 1, true, 97⟩ :: pcsFrom nm6 3 := (pcsFrom_step nm6 2 (by decide)).trans (by rw [show pcAt nm6 2 = ⟨2, 1, true, 97⟩ by kernel_rfl]; rfl)
  have e3 : pcsFrom nm6 3 = ⟨3, 1, true, 45⟩ :: pcsFrom nm6 4 := (pcsFrom_step nm6 3 (by decide)).trans (by rw [show pcAt nm6 3 = ⟨3, 1, true, 45⟩ by kernel_rfl]; rfl)
  have e4 : pcsFrom nm6 4 = ⟨4, 1, true, 49⟩ :: pcsFrom nm6 5 := (pcsFrom_step nm6 4 (by decide)).trans (by rw [show pcAt nm6 4 = ⟨4, 1, true, 49⟩ by kernel_rfl]; rfl)
  have e5 : pcsFrom nm6 5 = ⟨5, 1, true, 46⟩ :: pcsFrom nm6 6 := (pcsFrom_step nm6 5 (by decide)).trans (by rw [show pcAt nm6 5 = ⟨5, 1, true, 46⟩ by kernel_rfl]; rfl)
  unfold namedD pcs
  rw [e0, e1, e2, e3, e4, e5, pcsFrom_end nm6 6 (by decide)]
  decide
def nm2 : ByteArray := ⟨#[49, 97]⟩
theorem named_2 : namedD nm2 = false := by
  have e0 : pcsFrom nm2 0 = ⟨0, 1, true, 49⟩ :: pcsFrom nm2 1 := (pcsFrom_step nm2 0 (by decide)).trans (by rw [show pcAt nm2 0 = ⟨0, 1, true, 49⟩ by kernel_rfl]; rfl)
  have e1 : pcsFrom nm2 1 = ⟨1, 1, true, 97⟩ :: pcsFrom nm2 2 := (pcsFrom_step nm2 1 (by decide)).trans (by rw [show pcAt nm2 1 = ⟨1, 1, true, 97⟩ by kernel_rfl]; rfl)
  unfold namedD pcs
  rw [e0, e1, pcsFrom_end nm2 2 (by decide)]
  decide

theorem awake_check : checkD 1 ⟨#[112]⟩ 0 [⟨#[97]⟩] = 0 := by
  unfold checkD
  rw [if_neg (by decide), if_neg (by rw [named_p]; simp), if_pos (by unfold goodA; simp [named_a])]
theorem awake_zero : checkD 0 ⟨#[]⟩ 0 [] = 63 := by
  unfold checkD
  rw [if_pos (by decide)]

set_option maxHeartbeats 8000000 in
theorem awake_true (w : World) : Calls Try.prog 11 #[] w fun e w' => e = .returned (.bool true) ∧ Below w.heap.size w w' := by
  go_enter Try.func11, Try.ntmps11
  go_wp2_with fail
  obtain ⟨P, hP⟩ : ∃ P, P = ((((w.alloc (.cells #[.int .u16 49] 45)).alloc (.cells #[.string ⟨#[97]⟩, .slice (some ⟨w.heap.size, 0, none⟩) 1 1] 72)).alloc (.cells #[.int .i64 1, .string ⟨#[112]⟩, .slice none 0 0, .slice (some ⟨w.heap.size + 1, 0, none⟩) 1 1, .int .u32 0, .int .u32 0] 30)).alloc (.cells #[.int .u16 65, .int .u16 66, .int .u16 67] 45)).alloc
      (.cells #[.int .i64 3, .string ⟨#[]⟩, .slice (some ⟨w.heap.size + 1 + 1 + 1, 0, none⟩) 3 3, .slice none 0 0, .int .u32 0, .int .u32 0] 30) := ⟨_, rfl⟩
  have hPb : Below w.heap.size w P := by rw [hP]; exact (((((Below.refl _ w).alloc (Nat.le_refl _) _).alloc (by simp) _).alloc (by simp; omega) _).alloc (by simp; omega) _).alloc (by simp; omega) _
  have hPs : P.heap.size = w.heap.size + 5 := by rw [hP]; simp
  have hnew : ∀ (V : World) (o : Obj) (k : Nat), V.heap.size = k → (V.alloc o).heap[k]? = some o := fun V o k h => by subst h; exact World.alloc_heap_new V o
  have x0 : P.heap[w.heap.size]? = some (.cells #[.int .u16 49] 45 (0, 0)) := by rw [hP]; exact alloc_blk (alloc_blk (alloc_blk (alloc_blk (hnew _ _ _ rfl) _) _) _) _
  have x1 : P.heap[w.heap.size + 1]? = some (.cells #[.string ⟨#[97]⟩, .slice (some ⟨w.heap.size, 0, none⟩) 1 1] 72 (0, 0)) := by rw [hP]; exact alloc_blk (alloc_blk (alloc_blk (hnew _ _ _ (by simp)) _) _) _
  have x2 : P.heap[w.heap.size + 1 + 1]? = some (.cells #[.int .i64 1, .string ⟨#[112]⟩, .slice none 0 0, .slice (some ⟨w.heap.size + 1, 0, none⟩) 1 1, .int .u32 0, .int .u32 0] 30 (0, 0)) := by rw [hP]; exact alloc_blk (alloc_blk (hnew _ _ _ (by simp)) _) _
  have x3 : P.heap[w.heap.size + 1 + 1 + 1]? = some (.cells #[.int .u16 65, .int .u16 66, .int .u16 67] 45 (0, 0)) := by rw [hP]; exact alloc_blk (hnew _ _ _ (by simp)) _
  obtain ⟨E, hE⟩ : ∃ E : Nd, E = ⟨1, ⟨#[112]⟩, none, 0, [], some ⟨w.heap.size + 1, 0, none⟩, 1, [⟨⟨#[97]⟩, some ⟨w.heap.size, 0, none⟩, 1, [49]⟩], 0, 0⟩ := ⟨_, rfl⟩
  obtain ⟨X, hX⟩ : ∃ X : Nd, X = ⟨3, ⟨#[]⟩, some ⟨w.heap.size + 1 + 1 + 1, 0, none⟩, 3, [65, 66, 67], none, 0, [], 0, 0⟩ := ⟨_, rfl⟩
  have hs49 : Sl16 P (some ⟨w.heap.size, 0, none⟩) [49] := sl16_blk x0 rfl (by first | decide | simp | simp [ByteArray.size]) (by first | decide | simp | simp [ByteArray.size])
  have nE : NdIn P E := by
    rw [hE]
    refine ⟨Sl16.nil _ _, sla_blk x1 rfl (show 1 ≤ 4611686018427387903 by decide) (fun x hx => ?_) (fun x hx => ?_), show (⟨#[112]⟩ : ByteArray).size ≤ 9223372036854775807 by decide, show 0 ≤ 0 ∧ 0 ≤ 9223372036854775807 ∧ 1 ≤ 1 ∧ 1 ≤ 9223372036854775807 by decide⟩
    · rw [List.mem_singleton.1 hx]; exact hs49
    · rw [List.mem_singleton.1 hx]; show (⟨#[97]⟩ : ByteArray).size ≤ 9223372036854775807; decide
  have nX : NdIn P X := by
    rw [hX]
    exact ⟨sl16_blk x3 rfl (show ∀ u ∈ [65, 66, 67], u ≤ 65535 by decide) (show 3 ≤ 9223372036854775807 by decide), SlA.nil _ _, show (⟨#[]⟩ : ByteArray).size ≤ 9223372036854775807 by decide, show 3 ≤ 3 ∧ 3 ≤ 9223372036854775807 ∧ 0 ≤ 0 ∧ 0 ≤ 9223372036854775807 by decide⟩
  have dE : E.Bd 1099511627776 := by rw [hE]; exact ⟨show 0 ≤ 1099511627776 by decide, show 1 ≤ 1099511627776 by decide, fun x hx => by rw [List.mem_singleton.1 hx]; show 1 ≤ 1099511627776; decide⟩
  have dX : X.Bd 1099511627776 := by rw [hX]; exact ⟨show 3 ≤ 1099511627776 by decide, show 0 ≤ 1099511627776 by decide, fun x hx => absurd hx List.not_mem_nil⟩
  have vE : E.v = .agg #[.int .i64 1, .string ⟨#[112]⟩, .slice none 0 0, .slice (some ⟨w.heap.size + 1, 0, none⟩) 1 1, .int .u32 0, .int .u32 0] := by rw [hE]; rfl
  have vX : X.v = .agg #[.int .i64 3, .string ⟨#[]⟩, .slice (some ⟨w.heap.size + 1 + 1 + 1, 0, none⟩) 3 3, .slice none 0 0, .int .u32 0, .int .u32 0] := by rw [hX]; rfl
  have HSUB := Lib.hid (fun (w' : World) (b : Below P.heap.size P w') => sub_calls w' X (nX.below b) dX 1 9)
  have HATT := Lib.hid (fun (w' : World) (b : Below P.heap.size P w') => attr_calls w' E (nE.below b) dE ⟨#[97]⟩)
  have HSET := Lib.hid (fun (w' : World) (b : Below P.heap.size P w') => setattr_calls w' E (nE.below b) dE ⟨#[99]⟩ (by decide) 0 (Sl16.nil w' none) (by decide))
  have HCK := Lib.hid (fun (w' : World) (b : Below P.heap.size P w') => check_calls w' E (nE.below b))
  have HCZ := Lib.hid (fun (w' : World) => check_calls w' Nd.zero (Fresh.zero 0 w').nd)
  have HCL := Lib.hid (fun (w' : World) (b : Below P.heap.size P w') => clone_calls w' E (nE.below b) dE)
  have HP := Lib.hid (And.intro hPb (And.intro hPs (And.intro x2 (And.intro nE (And.intro hE hX)))))
  clear hnew x0 x1 x2 x3 hs49 nE nX dE dX hE hX hPb
  rw [vX] at HSUB
  rw [vE] at HATT HSET HCK HCL
  rw [← hP]
  clear hP vX
  have hsub : (partD X.kind 1 9 X.data.length).2 = 0 ∧ subD X.kind 1 9 X.data = [66, 67] := by rw [HP.out.2.2.2.2.2]; exact ⟨show (partD 3 1 9 3).2 = 0 by decide, show subD 3 1 9 [65, 66, 67] = [66, 67] by decide⟩
  have hatt : E.kind = 1 ∧ attrD (E.L.map attrOf) ⟨#[97]⟩ = some [49] := by rw [HP.out.2.2.2.2.1]; exact ⟨rfl, show attrD [(⟨#[97]⟩, [49])] ⟨#[97]⟩ = some [49] by unfold attrD; simp⟩
  refine (HSUB.out P (Below.refl _ _)).mono ?_
  rintro e w1 ⟨b1, ⟨h1, _⟩ | ⟨_, a1, rfl, hc1⟩⟩
  · exact absurd hsub.1 h1
  rw [hsub.2]
  simp only [List.length_cons, List.length_nil, Nat.zero_add, Nat.reduceAdd]
  have l2 : w.heap.size + 1 + 1 < P.heap.size := lt_of_some HP.out.2.2.1
  have y2 := (b1.block _ l2).trans HP.out.2.2.1
  have c0 := cell_blk y2 0 rfl
  have c1 := cell_blk y2 1 rfl
  have c2 := cell_blk y2 2 rfl
  have c3 := cell_blk y2 3 rfl
  have c4 := cell_blk y2 4 rfl
  have c5 := cell_blk y2 5 rfl
  have l3 := lt_of_some y2
  have B1 := Lib.hid b1
  have HT := Lib.hid hatt
  clear y2 hc1 hsub hatt b1
  simp at c0 c1 c2 c3 c4 c5
  go_wp2_with fail
  refine (HATT.out w1 B1.out).mono ?_
  rintro e w2 ⟨b2, ⟨h1, _⟩ | ⟨_, h1, _⟩ | ⟨_, us, a2, h1, rfl, hc2⟩⟩
  · exact absurd HT.out.1 h1
  · rw [HT.out.2] at h1; cases h1
  obtain rfl : us = [49] := by rw [HT.out.2] at h1; exact (Option.some.inj h1).symm
  simp only [List.length_cons, List.length_nil, Nat.zero_add]
  have B2 := Lib.hid (B1.out.trans (b2.mono B1.out.size))
  clear c0 c1 c2 c3 c4 c5 b2 hc2 h1
  have y2 := (B2.out.block _ l2).trans HP.out.2.2.1
  have c0 := cell_blk y2 0 rfl
  have c1 := cell_blk y2 1 rfl
  have c2 := cell_blk y2 2 rfl
  have c3 := cell_blk y2 3 rfl
  have c4 := cell_blk y2 4 rfl
  have c5 := cell_blk y2 5 rfl
  have l3 := lt_of_some y2
  clear y2
  simp at c0 c1 c2 c3 c4 c5
  go_wp2_with fail
  have hset : setAttrD E.c ⟨#[99]⟩ [] = ({ E.c with attrs := [(⟨#[97]⟩, [49]), (⟨#[99]⟩, [])] }, 0) := by
    unfold setAttrD
    rw [if_neg (by show ¬ E.kind ≠ 1; rw [HT.out.1]; simp), if_neg (by rw [named_c]; simp)]
    have : setD E.c.attrs ⟨#[99]⟩ [] = [(⟨#[97]⟩, [49]), (⟨#[99]⟩, [])] := by
      rw [HP.out.2.2.2.2.1]
      show setD [(⟨#[97]⟩, [49])] ⟨#[99]⟩ [] = [(⟨#[97]⟩, [49]), (⟨#[99]⟩, [])]
      unfold setD
      rw [if_neg (by simp [List.findIdx_cons, isNm2])]
      rfl
    rw [this]
  refine (HSET.out w2 B2.out).mono ?_
  rw [hset]
  rintro e w3 ⟨M, rfl, hMc, hMf, b3⟩
  have hM2 : M.L.length = 2 := by
    have := congrArg (fun c : NC => c.attrs.length) hMc
    simpa [Nd.c] using this
  obtain ⟨k2, nm2', da2, dc2, d2, aa2, ac2, L2, sl2, ge2⟩ := M
  simp only [Nd.v, Nd.cells] at hM2 ⊢
  rw [hM2]
  have B3 := Lib.hid (B2.out.trans (b3.mono B2.out.size))
  clear c0 c1 c2 c3 c4 c5 b3 hset hMc hMf hM2
  generalize d2.length = m2
  go_wp2_with fail
  obtain ⟨V, hV⟩ : ∃ V, V = w3.alloc (.cells #[.int .i64 k2, .string nm2', .slice da2 m2 dc2, .slice aa2 2 ac2, .int .u32 sl2, .int .u32 ge2] 30) := ⟨_, rfl⟩
  have b4 : Below P.heap.size P V.drew := by rw [hV]; exact ((B3.out.alloc B3.out.size _)).drew
  have x8 : V.heap[w3.heap.size]? = some (.cells #[.int .i64 k2, .string nm2', .slice da2 m2 dc2, .slice aa2 2 ac2, .int .u32 sl2, .int .u32 ge2] 30 (0, 0)) := by rw [hV]; exact Go.heap_alloc_new w3 _
  rw [← hV]
  have x2 := (b4.block _ l2).trans HP.out.2.2.1
  have l8 : w3.heap.size < V.heap.size := lt_of_some x8
  have hS : ∀ w', Below V.drew.heap.size V.drew w' → w'.cell? ⟨w.heap.size + 1 + 1, 0, none⟩ = some (.int .i64 1) ∧ w'.cell? ⟨w.heap.size + 1 + 1, 1, none⟩ = some (.string ⟨#[112]⟩) ∧ w'.cell? ⟨w.heap.size + 1 + 1, 2, none⟩ = some (.slice none 0 0) ∧ w'.cell? ⟨w.heap.size + 1 + 1, 3, none⟩ = some (.slice (some ⟨w.heap.size + 1, 0, none⟩) 1 1) ∧ w'.cell? ⟨w.heap.size + 1 + 1, 4, none⟩ = some (.int .u32 0) ∧ w'.cell? ⟨w.heap.size + 1 + 1, 5, none⟩ = some (.int .u32 0) ∧ w'.cell? ⟨w3.heap.size, 3, none⟩ = some (.slice aa2 2 ac2) := fun w' hb => by
    have y2 := (hb.block _ (lt_of_some x2)).trans x2
    have y8 := (hb.block _ l8).trans x8
    exact ⟨cell_blk y2 0 rfl, cell_blk y2 1 rfl, cell_blk y2 2 rfl, cell_blk y2 3 rfl, cell_blk y2 4 rfl, cell_blk y2 5 rfl, cell_blk y8 3 rfl⟩
  have HS := Lib.hid hS
  have HB4 := Lib.hid b4
  have HB0 := Lib.hid (Below.refl V.drew.heap.size V.drew)
  have HPM : Hid (∀ w', Below V.drew.heap.size V.drew w' → Below P.heap.size P w') := Lib.hid (fun w' hb => HB4.out.trans (hb.mono HB4.out.size))
  have hck : checkD E.kind E.name E.data.length (E.L.map LA.name) = 0 := by rw [HP.out.2.2.2.2.1]; exact awake_check
  have hcz : checkD Nd.zero.kind Nd.zero.name Nd.zero.data.length (Nd.zero.L.map LA.name) = 63 := awake_zero
  have HC1 := Lib.hid (fun w' (b : Below V.drew.heap.size V.drew w') => by have h := HCK.out w' (HPM.out w' b); rw [hck] at h; exact h)
  have HC2 := Lib.hid (fun w' => by have h := HCZ.out w'; rw [hcz] at h; exact h)
  have HN6 := Lib.hid (fun w' => by have h := named_calls w' nm6 (by decide); rw [named_6] at h; exact h)
  have HN2 := Lib.hid (fun w' => by have h := named_calls w' nm2 (by decide); rw [named_2] at h; exact h)
  clear hS hV x8 x2 l8 b4 hck hcz l2 l3
  have HEQ : Hid (∀ (w' : World) (M : Nd), Below V.drew.heap.size V.drew w' → M.Same E → Fresh w'.heap.size w' M ∨ (∃ B, Fresh B w' M) → Calls Try.prog 17 #[.agg #[.int .i64 1, .string ⟨#[112]⟩, .slice none 0 0, .slice (some ⟨w.heap.size + 1, 0, none⟩) 1 1, .int .u32 0, .int .u32 0], M.v] w' fun e w'' => e = .returned (.bool true) ∧ Below w'.heap.size w' w'') := Lib.hid (fun w' M hb hs hf => by
    have hfr : NdIn w' M := by rcases hf with h | ⟨B, h⟩ <;> exact h.nd
    have hEL : E.L = [⟨⟨#[97]⟩, some ⟨w.heap.size, 0, none⟩, 1, [49]⟩] := by rw [HP.out.2.2.2.2.1]
    obtain ⟨y, hy⟩ : ∃ y, M.L = [y] := by
      have := hs.len
      rw [hEL] at this
      exact List.length_eq_one_iff.1 this
    have h := equal1_calls w' E M (HP.out.2.2.2.1.below (HPM.out w' hb)) hfr hs.c.symm _ y hEL hy
    rw [vE] at h
    exact h)
  go_region_held3 (fun w' => w'.cell? ⟨w.heap.size + 1 + 1, 0, none⟩ = some (.int .i64 1) ∧ w'.cell? ⟨w.heap.size + 1 + 1, 1, none⟩ = some (.string ⟨#[112]⟩) ∧ w'.cell? ⟨w.heap.size + 1 + 1, 2, none⟩ = some (.slice none 0 0) ∧ w'.cell? ⟨w.heap.size + 1 + 1, 3, none⟩ = some (.slice (some ⟨w.heap.size + 1, 0, none⟩) 1 1) ∧ w'.cell? ⟨w.heap.size + 1 + 1, 4, none⟩ = some (.int .u32 0) ∧ w'.cell? ⟨w.heap.size + 1 + 1, 5, none⟩ = some (.int .u32 0) ∧ w'.cell? ⟨w3.heap.size, 3, none⟩ = some (.slice aa2 2 ac2))
    (first | exact HS.out _ hb10 | exact HS.out _ hb9 | exact HS.out _ hb8 | exact HS.out _ hb7 | exact HS.out _ hb6 | exact HS.out _ hb5 | exact HS.out _ HB0.out)
    (first | (go_at_call 17; refine (HEQ.out _ M9 hb9 hs9 (.inr ⟨_, hf9⟩)).mono ?_; rintro e w10 ⟨rfl, b10⟩; have hb10 := hb9.trans (b10.mono hb9.size)) | (go_at_call 20; refine (HCL.out _ (HPM.out _ hb8)).mono ?_; rintro e w9 ⟨M9, rfl, hs9, hf9, b9⟩; have hb9 := hb8.trans (b9.mono hb8.size)) | (go_at_call 12; have hh := hb7; refine (HN2.out _).mono ?_; rintro e w8 ⟨rfl, b8⟩; have hb8 := hb7.trans (b8.mono hb7.size)) | (go_at_call 12; have hh := hb6; refine (HN6.out _).mono ?_; rintro e w7 ⟨rfl, b7⟩; have hb7 := hb6.trans (b7.mono hb6.size)) | (go_at_call 15; have hh := hb5; refine (HC2.out _).mono ?_; rintro e w6 ⟨rfl, b6⟩; have hb6 := hb5.trans (b6.mono hb5.size)) | (go_at_call 15; refine (HC1.out _ HB0.out).mono ?_; rintro e w5 ⟨rfl, b5⟩; have hb5 := b5))
  go_wp2
  go_ret
  exact ⟨rfl, HP.out.1.trans ((HPM.out _ hb10).mono HP.out.1.size)⟩
end Go.Proofs.Ytelhnaphkbpakaa

