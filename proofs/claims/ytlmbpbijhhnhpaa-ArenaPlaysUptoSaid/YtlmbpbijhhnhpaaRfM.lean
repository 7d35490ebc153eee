/- The document's arena: Set, Drop, Alloc: what they do to the data and to memory. -/
import Derived.Test.YtlmbpbijhhnhpaaRfW2
import Derived.Test.YtlmbpbijhhnhpaaArPush
import Derived.Deep.AppendLies
import Derived.Deep.RegionLaw
import Derived.StillTailTactics
namespace Go.Proofs.Ytlmbpbijhhnhpaa
open Go.RowKit
set_option linter.unusedVariables false
set_option maxRecDepth 100000

/-- The arena in memory, without its laws. -/
structure RfRaw (B : Nat) (w0 w : World) (rb : Nat) (S G : Int) (all : List (Nat × Bool × Int)) (free : List Nat) (av fv : Value) : Prop where
  base : B ≤ rb
  blk : w.heap[rb]? = some (.cells #[.int .i64 S, .int .i64 G, av, fv] 126 (0, 0))
  rowA : w.ownsRow B 151 3 av all.length (all.flatMap rsl)
  rowF : w.ownsRow B 3 1 fv free.length (rfree free)
  fr : FrT [126, 151, 3] B w0 w

section
variable {B : Nat} {w0 w w' : World} {rb : Nat} {S G : Int} {all : List (Nat × Bool × Int)} {free : List Nat} {av fv : Value} {T : TA Int}
theorem RefAt.raw (h : RefAt B w rb T av fv) : RfRaw B w w rb T.S T.G T.all T.free av fv := ⟨h.base, h.blk, h.rowA, h.rowF, FrT.refl _ _ _⟩
theorem RfRaw.at (h : RfRaw B w0 w rb S G all free av fv) (T' : TA Int) (hS : S = T'.S) (hG : G = T'.G) (ha : all = T'.all) (hf : free = T'.free) (ok : (T'.ar encI).Ok 1) : RefAt B w rb T' av fv ∧ FrT [126, 151, 3] B w0 w := by
  subst hS hG ha hf
  exact ⟨⟨ok, h.base, h.blk, h.rowA, h.rowF⟩, h.fr⟩
theorem RfRaw.below (h : RfRaw B w0 w rb S G all free av fv) (hb : Below w.heap.size w w') : RfRaw B w0 w' rb S G all free av fv :=
  have f : FrT [] 0 w w' := FrT.of_below hb
  ⟨h.base, f.blk h.blk (by simp), f.row h.rowA (by simp), f.row h.rowF (by simp), h.fr.trans (FrT.of_below hb)⟩
theorem RfRaw.alloc (h : RfRaw B w0 w rb S G all free av fv) (o : Obj) : RfRaw B w0 (w.alloc o) rb S G all free av fv := h.below ((Below.refl _ _).alloc (Nat.le_refl _) o)
theorem RfRaw.drew (h : RfRaw B w0 w rb S G all free av fv) : RfRaw B w0 w.drew rb S G all free av fv := h.below (Below.refl _ _).drew
theorem RfRaw.drewN (h : RfRaw B w0 w rb S G all free av fv) (n : Nat) : RfRaw B w0 (w.drewN n) rb S G all free av fv := h.below (below_drewN (Below.refl _ _) n)

/-- A store into cell j of slot k. -/
theorem RfRaw.slot {gb cap n : Nat} (h : RfRaw B w0 w rb S G all free (.slice (some ⟨gb, 0, none⟩) n cap) fv) (hn : n = all.length) {k : Nat} {s : Nat × Bool × Int} (s' : Nat × Bool × Int) (hk : all[k]? = some s) (j : Nat) (v : Value) (hj : j < 3)
    (hs : rsl s' = (rsl s).set j v) : RfRaw B w0 (w.setCell ⟨gb, k * 3 + j, none⟩ v) rb S G (all.set k s') free (.slice (some ⟨gb, 0, none⟩) n cap) fv := by
  subst hn
  obtain ⟨cur, hcur, hgb⟩ := ownsRow_blk h.rowA
  have hne : rb ≠ gb := ne_blk h.blk hcur (by decide)
  refine ⟨h.base, set_other h.blk hne v, ?_, ownsRow_other h.rowF hcur (by decide) _ _, h.fr.set hgb hcur (by simp) v⟩
  rw [fl_set rsl_length hk j hj hs, List.length_set]
  exact (h.rowA.stored _ v).1

/-- A store into a field of the struct. -/
theorem RfRaw.fld (h : RfRaw B w0 w rb S G all free av fv) (o : Nat) (u : Value) {all' : List (Nat × Bool × Int)} {free' : List Nat} {av' fv' : Value}
    (hu : (#[.int .i64 S, .int .i64 G, av, fv] : Array Value).setIfInBounds o u = #[.int .i64 S, .int .i64 G, av', fv'])
    (hA : w.ownsRow B 151 3 av' all'.length (all'.flatMap rsl)) (hF : w.ownsRow B 3 1 fv' free'.length (rfree free')) : RfRaw B w0 (w.setCell ⟨rb, o, none⟩ u) rb S G all' free' av' fv' :=
  ⟨h.base, by rw [set_blk h.blk, hu], ownsRow_other hA h.blk (by decide) _ _, ownsRow_other hF h.blk (by decide) _ _, h.fr.set h.base h.blk (by simp) u⟩
theorem RfRaw.setNew (h : RfRaw B w0 w rb S G all free av fv) {b : Nat} {cs : Array Value} {e' : TypeId} {fz : Nat × Nat} (hb : w.heap[b]? = some (.cells cs e' fz)) (he : 126 ≠ e' ∧ 151 ≠ e' ∧ 3 ≠ e') (hn : w0.heap.size ≤ b) (o : Nat) (u : Value) :
    RfRaw B w0 (w.setCell ⟨b, o, none⟩ u) rb S G all free av fv :=
  ⟨h.base, set_other h.blk (ne_blk h.blk hb he.1) u, ownsRow_other h.rowA hb he.2.1 _ _, ownsRow_other h.rowF hb he.2.2 _ _, h.fr.setNew hn u⟩

theorem RfRaw.pushF (h : RfRaw B w0 w rb S G all free av fv) (hgrow : w.grownBy w' fv.ownBlock) {k g cap : Nat}
    (hown : w'.ownsRow B 3 1 (.slice (some ⟨g, 0, none⟩) (free.length + 1) cap) (free.length + 1) (rfree free ++ [.int .i64 (k : Int)])) :
    RfRaw B w0 (w'.setCell ⟨rb, 3, none⟩ (.slice (some ⟨g, 0, none⟩) (free.length + 1) cap)) rb S G all (free ++ [k]) av (.slice (some ⟨g, 0, none⟩) (free.length + 1) cap) := by
  have h1 := (hgrow.block rb (lt_of_some h.blk) (row_ne h.rowF h.blk (by decide))).trans h.blk
  have h2 := h.rowA.kept hgrow (row_row_ne h.rowA h.rowF (by decide))
  have h3 := h.fr.append h.rowF (Nat.le_refl _) (by simp) hgrow
  have h4 : w'.ownsRow B 3 1 (.slice (some ⟨g, 0, none⟩) (free.length + 1) cap) (free ++ [k]).length (rfree (free ++ [k])) := by simpa [rfree] using hown
  exact ⟨h.base, by rw [set_blk h1]; rfl, ownsRow_other h2 h1 (by decide) _ _, ownsRow_other h4 h1 (by decide) _ _, h3.set h.base h1 (by simp) _⟩

theorem RfRaw.pushA (h : RfRaw B w0 w rb S G all free av fv) (hgrow : w.grownBy w' av.ownBlock) {s : Nat × Bool × Int} {g cap : Nat}
    (hown : w'.ownsRow B 151 3 (.slice (some ⟨g, 0, none⟩) (all.length + 1) cap) (all.length + 1) (all.flatMap rsl ++ rsl s)) :
    RfRaw B w0 (w'.setCell ⟨rb, 2, none⟩ (.slice (some ⟨g, 0, none⟩) (all.length + 1) cap)) rb S G (all ++ [s]) free (.slice (some ⟨g, 0, none⟩) (all.length + 1) cap) fv := by
  have h1 := (hgrow.block rb (lt_of_some h.blk) (row_ne h.rowA h.blk (by decide))).trans h.blk
  have h2 := h.rowF.kept hgrow (row_row_ne h.rowF h.rowA (by decide))
  have h3 := h.fr.append h.rowA (Nat.le_refl _) (by simp) hgrow
  have h4 : w'.ownsRow B 151 3 (.slice (some ⟨g, 0, none⟩) (all.length + 1) cap) (all ++ [s]).length ((all ++ [s]).flatMap rsl) := by simpa using hown
  exact ⟨h.base, by rw [set_blk h1]; rfl, ownsRow_other h4 h1 (by decide) _ _, ownsRow_other h2 h1 (by decide) _ _, h3.set h.base h1 (by simp) _⟩
end

theorem TA.put_ok {T : TA Int} (ok : (T.ar encI).Ok 1) {k g : Nat} {y : Int} (x : Int) (h : T.all[k]? = some (g, true, y)) : (TA.ar encI { T with all := T.all.set k (g, true, x) }).Ok 1 := by
  have e := TA.ar_set encI T k g true x T.free T.count T.ret
  rw [e]
  exact ok.put (TA.ar_get h) rfl

set_option maxHeartbeats 800000 in
theorem rf_set {B : Nat} {w : World} {rb : Nat} {T : TA Int} {av fv : Value} (h : RefAt B w rb T av fv) (s g : Nat) (x : Int) (hs : s ≤ 4294967295) (hg : g ≤ 4294967295) :
    Calls Try.prog 62 #[.pointer (some ⟨rb, 0, none⟩), .agg #[.int .u32 (s : Int), .int .u32 (g : Int)], .int .i64 x] w fun e w' => e = .returned (.bool (T.at s g).isSome) ∧ (∃ av' fv', RefAt B w' rb (T.put x s g).1 av' fv') ∧ FrT [126, 151, 3] B w w' := by
  cases hat : T.at s g with
  | none =>
    have H := Lib.hid h
    have HA := Lib.hid hat
    rw [show (T.put x s g).1 = T by simp [TA.put, hat]]
    clear h hat
    go_enter Try.func62, Try.ntmps62
    go_wp2_with (go_at_call 81; refine (rf_lives (H.out.below (by repeat (first | exact Below.refl _ _ | assumption | refine Below.drew ?_ | refine below_drewN ?_ _ | refine Below.alloc ?_ (by simp <;> omega) _ | refine Below.setCell ?_ (by simp <;> omega) _ | (apply bl_trans; assumption; (simp <;> omega))))) s g hs hg).mono ?_; rw [HA.out]; rintro e w' ⟨rfl, hb⟩)
    go_ret
    have hB : Below w.heap.size w w' := (by repeat (first | exact Below.refl _ _ | assumption | refine Below.drew ?_ | refine below_drewN ?_ _ | refine Below.alloc ?_ (by simp <;> omega) _ | refine Below.setCell ?_ (by simp <;> omega) _ | (apply bl_trans; assumption; (simp <;> omega))))
    exact ⟨rfl, ⟨_, _, H.out.below hB⟩, FrT.of_below hB⟩
  | some y =>
    obtain ⟨h1, h2⟩ := TA.at_some hat
    obtain ⟨k, rfl⟩ : ∃ k, s = k + 1 := ⟨s - 1, by omega⟩
    rw [Nat.add_sub_cancel] at h2
    obtain ⟨gb, cap, rfl, hgb, c0, c1, c2⟩ := h.slot h2
    have hrb := lt_of_some h.blk
    have hl : k < T.all.length := (List.getElem?_eq_some_iff.1 h2).1
    have H := Lib.hid h
    have HA := Lib.hid hat
    rw [show (T.put x (k + 1) g).1 = { T with all := T.all.set k (g, true, x) } by simp [TA.put, hat]]
    have ek : ((k + 1 : Nat) : Int) = (k : Int) + 1 := by omega
    have q4 : IntKind.u32.wrap ((k : Int)) = (k : Int) := IntWalk.u32_in _ (by omega)
    obtain ⟨n, hn⟩ : ∃ n, n = T.all.length := ⟨_, rfl⟩
    rw [← hn] at hl
    have p1 : (k : Int) < (n : Int) := by omega
    have HN := Lib.hid hn
    have HK := Lib.hid h2
    rw [ek]
    clear h hat h2 c0 c1 c2 ek hn
    go_enter Try.func62, Try.ntmps62
    go_wp2_with fail
    refine (show Calls Try.prog 81 #[.pointer (some ⟨rb, 0, none⟩), .agg #[.int .u32 ((k : Int) + 1), .int .u32 (g : Int)]] _ _ from rf_lives (H.out.below (by repeat (first | exact Below.refl _ _ | assumption | refine Below.drew ?_ | refine below_drewN ?_ _ | refine Below.alloc ?_ (by simp <;> omega) _ | refine Below.setCell ?_ (by simp <;> omega) _ | (apply bl_trans; assumption; (simp <;> omega))))) (k + 1) g hs hg).mono ?_
    rw [HA.out]
    rintro e w' ⟨rfl, hb⟩
    have nX : w'.heap[w.heap.size]? = some (.cells #[.int .u32 ((k : Int) + 1), .int .u32 (g : Int)] 39 (0, 0)) := (hb.block w.heap.size (by simp)).trans (Go.heap_alloc_new w _)
    have hR := H.out.raw.below (w' := w') (by repeat (first | exact Below.refl _ _ | assumption | refine Below.drew ?_ | refine below_drewN ?_ _ | refine Below.alloc ?_ (by simp <;> omega) _ | refine Below.setCell ?_ (by simp <;> omega) _ | (apply bl_trans; assumption; (simp <;> omega))))
    have y0 := cell_blk nX 0 rfl
    have b2 := cell_blk hR.blk 2 rfl
    obtain ⟨_, _, hav, hgb', c0, c1, c2⟩ := (H.out.below (w' := w') (by repeat (first | exact Below.refl _ _ | assumption | refine Below.drew ?_ | refine below_drewN ?_ _ | refine Below.alloc ?_ (by simp <;> omega) _ | refine Below.setCell ?_ (by simp <;> omega) _ | (apply bl_trans; assumption; (simp <;> omega))))).slot HK.out
    simp at hav
    obtain ⟨rfl, rfl⟩ := hav
    have u2 := hR.rowA.frozenAt (k * 3 + 2)
    simp at y0 b2 c2
    rw [← HN.out] at b2
    have HR := Lib.hid hR
    clear nX hR c0 c1 hb
    go_wp2
    go_still_tail 10, (by kernel_rfl)
    change wpList _ _ _ _ _ w'.drew
    go_wp2
    go_ret
    have hfin := (HR.out.slot rfl (g, true, x) HK.out 2 (.int .i64 x) (by omega) rfl).drew
    obtain ⟨hA, hF⟩ := hfin.at { T with all := T.all.set k (g, true, x) } rfl rfl rfl rfl (TA.put_ok H.out.ok x HK.out)
    exact ⟨rfl, ⟨_, _, hA⟩, hF⟩

theorem TA.drop_room_ok {T : TA Int} (ok : (T.ar encI).Ok 1) {k g : Nat} {y : Int} (h : T.all[k]? = some (g, true, y)) (hg : g < T.G) : (TA.ar encI { T with all := T.all.set k (g, false, (0 : Int)), free := T.free ++ [k], count := T.count - 1 }).Ok 1 := by
  have e := TA.ar_set encI T k g false (0 : Int) (T.free ++ [k]) (T.count - 1) T.ret
  rw [e]
  exact ok.freed (TA.ar_get h) rfl hg
theorem TA.drop_last_ok {T : TA Int} (ok : (T.ar encI).Ok 1) {k g : Nat} {y : Int} (h : T.all[k]? = some (g, true, y)) : (TA.ar encI { T with all := T.all.set k (g, false, (0 : Int)), count := T.count - 1, ret := T.ret + 1 }).Ok 1 := by
  have e := TA.ar_set encI T k g false (0 : Int) T.free (T.count - 1) (T.ret + 1)
  rw [e]
  exact ok.retired (TA.ar_get h) rfl
theorem rf_info3 : (Try.prog.info? 3).map (fun i => (i.zero, i.size, i.bytes)) = some (some (.int .i64 0), 1, 8) := by kernel_rfl
theorem rf_info151 : (Try.prog.info? 151).map (fun i => (i.zero, i.size, i.bytes)) = some (some (.agg #[.int .i64 0, .bool false, .int .i64 0]), 3, 24) := by kernel_rfl

set_option maxHeartbeats 2000000 in
theorem rf_drop {B : Nat} {w : World} {rb : Nat} {T : TA Int} {av fv : Value} (h : RefAt B w rb T av fv) (s g : Nat) (hs : s ≤ 4294967295) (hg : g ≤ 4294967295) :
    Calls Try.prog 60 #[.pointer (some ⟨rb, 0, none⟩), .agg #[.int .u32 (s : Int), .int .u32 (g : Int)]] w fun e w' => e = .returned (.bool (T.at s g).isSome) ∧ (∃ av' fv', RefAt B w' rb (T.drop 0 s g).1 av' fv') ∧ FrT [126, 151, 3] B w w' := by
  cases hat : T.at s g with
  | none =>
    have H := Lib.hid h
    have HA := Lib.hid hat
    rw [show (T.drop 0 s g).1 = T by simp [TA.drop, hat]]
    clear h hat
    go_enter Try.func60, Try.ntmps60
    go_wp2_with (go_at_call 81; refine (rf_lives (H.out.below (by repeat (first | exact Below.refl _ _ | assumption | refine Below.drew ?_ | refine below_drewN ?_ _ | refine Below.alloc ?_ (by simp <;> omega) _ | refine Below.setCell ?_ (by simp <;> omega) _ | (apply bl_trans; assumption; (simp <;> omega))))) s g hs hg).mono ?_; rw [HA.out]; rintro e w' ⟨rfl, hb⟩)
    go_ret
    have hB : Below w.heap.size w w' := (by repeat (first | exact Below.refl _ _ | assumption | refine Below.drew ?_ | refine below_drewN ?_ _ | refine Below.alloc ?_ (by simp <;> omega) _ | refine Below.setCell ?_ (by simp <;> omega) _ | (apply bl_trans; assumption; (simp <;> omega))))
    exact ⟨rfl, ⟨_, _, H.out.below hB⟩, FrT.of_below hB⟩
  | some y =>
    obtain ⟨h1, h2⟩ := TA.at_some hat
    obtain ⟨k, rfl⟩ : ∃ k, s = k + 1 := ⟨s - 1, by omega⟩
    rw [Nat.add_sub_cancel] at h2
    obtain ⟨gb, cap, rfl, hgb, c0, c1, c2⟩ := h.slot h2
    obtain ⟨hgg1, hgg2⟩ := h.gen h2
    simp only at hgg1 hgg2
    obtain ⟨hl1, hl2, hl3, hl4, hl5⟩ := h.len
    have hrb := lt_of_some h.blk
    have hl : k < T.all.length := (List.getElem?_eq_some_iff.1 h2).1
    have H := Lib.hid h
    have HA := Lib.hid hat
    have ek : ((k + 1 : Nat) : Int) = (k : Int) + 1 := by omega
    have q1 : IntKind.i64.wrap ((k : Int) + 1) = (k : Int) + 1 := IntWalk.i64_in _ (by omega)
    have q2 : (k : Int) + 1 - 1 = (k : Int) := by omega
    obtain ⟨n, hn⟩ : ∃ n, n = T.all.length := ⟨_, rfl⟩
    obtain ⟨m, hm⟩ : ∃ m, m = T.free.length := ⟨_, rfl⟩
    rw [← hn] at hl hl1
    rw [← hm, ← hn] at hl2
    have p1 : (k : Int) < (n : Int) := by omega
    have p2 : (0 : Int) ≤ (k : Int) := by omega
    have HN := Lib.hid hn
    have HM := Lib.hid hm
    have HK := Lib.hid h2
    have HL := Lib.hid (And.intro hl3 (And.intro hl4 hl5))
    rw [ek]
    clear h hat h2 c0 c1 c2 ek hn hm hl3 hl4 hl5
    go_enter Try.func60, Try.ntmps60
    go_wp2_with fail
    refine (show Calls Try.prog 81 #[.pointer (some ⟨rb, 0, none⟩), .agg #[.int .u32 ((k : Int) + 1), .int .u32 (g : Int)]] _ _ from rf_lives (H.out.below (by repeat (first | exact Below.refl _ _ | assumption | refine Below.drew ?_ | refine below_drewN ?_ _ | refine Below.alloc ?_ (by simp <;> omega) _ | refine Below.setCell ?_ (by simp <;> omega) _ | (apply bl_trans; assumption; (simp <;> omega))))) (k + 1) g hs hg).mono ?_
    rw [HA.out]
    rintro e w' ⟨rfl, hb⟩
    have nX : w'.heap[w.heap.size]? = some (.cells #[.int .u32 ((k : Int) + 1), .int .u32 (g : Int)] 39 (0, 0)) := (hb.block w.heap.size (by simp)).trans (Go.heap_alloc_new w _)
    have hR := H.out.raw.below (w' := w') (by repeat (first | exact Below.refl _ _ | assumption | refine Below.drew ?_ | refine below_drewN ?_ _ | refine Below.alloc ?_ (by simp <;> omega) _ | refine Below.setCell ?_ (by simp <;> omega) _ | (apply bl_trans; assumption; (simp <;> omega))))
    have y0 := cell_blk nX 0 rfl
    have b1 := cell_blk hR.blk 1 rfl
    have b2 := cell_blk hR.blk 2 rfl
    have b3 := cell_blk hR.blk 3 rfl
    have v3 := free_blk hR.blk 3
    obtain ⟨_, _, hav, hgb', c0, c1, c2⟩ := (H.out.below (w' := w') (by repeat (first | exact Below.refl _ _ | assumption | refine Below.drew ?_ | refine below_drewN ?_ _ | refine Below.alloc ?_ (by simp <;> omega) _ | refine Below.setCell ?_ (by simp <;> omega) _ | (apply bl_trans; assumption; (simp <;> omega))))).slot HK.out
    simp at hav
    obtain ⟨rfl, rfl⟩ := hav
    have u1 := hR.rowA.frozenAt (k * 3 + 1)
    have u2 := hR.rowA.frozenAt (k * 3 + 2)
    obtain ⟨curA, hcurA, _⟩ := ownsRow_blk hR.rowA
    have n1 : gb ≠ rb := Ne.symm (ne_blk hR.blk hcurA (by decide))
    have n1' := Ne.symm n1
    have hrb' := lt_of_some hR.blk
    simp at y0 b1 b2 b3 c0 c1 c2
    rw [← HN.out] at b2
    obtain ⟨G, hG⟩ : ∃ G, G = T.G := ⟨_, rfl⟩
    rw [← hG] at b1
    have HG := Lib.hid hG
    have HR := Lib.hid hR
    clear nX hR hb hcurA hG
    by_cases hroom : g < G
    · have HD := Lib.hid (show (T.drop 0 (k + 1) g).1 = { T with all := T.all.set k (g, false, 0), free := T.free ++ [k], count := T.count - 1 } by simp only [TA.drop, HA.out, Nat.add_sub_cancel]; rw [if_pos (by rw [← HG.out]; exact hroom)])
      have q5 : decide (g < G) = true := by simp; omega
      go_wp2
      go_quiet (fail)
      have hR2 := ((HR.out.slot rfl (g, false, y) HK.out 1 (.bool false) (by omega) rfl).slot (by simp) (k := k) (s := (g, false, y)) (g, false, 0) (by simp [(List.getElem?_eq_some_iff.1 HK.out).1]) 2 (.int .i64 0) (by omega) rfl).drewN nq
      generalize (((w'.setCell ⟨gb, k * 3 + 1, none⟩ (.bool false)).setCell ⟨gb, k * 3 + 2, none⟩ (.int .i64 0)).drewN nq) = W at hR2 ⊢
      have hB : B ≤ W.heap.size := by have := hR2.base; have := lt_of_some hR2.blk; omega
      have hrow := hR2.rowF
      rw [← HM.out] at hrow
      have d3 := cell_blk hR2.blk 3 rfl
      have hrbW := lt_of_some hR2.blk
      simp at d3
      have HR2 := Lib.hid hR2
      obtain ⟨i3, hi3, ha1, ha2, ha3⟩ := info_parts rf_info3
      clear b1 b2 b3 v3 c0 c1 c2 u1 u2 hR2 y0
      go_wp2_with (at_builtin; refine wpList_append_lies _ rfl (.tmp 47) (.tmp 49) 24 rfl B 3 i3 _ 1 8 Try.underlying24 hi3 ha1 ha2 ha3 rfl (by omega) fv m _ rfl (hrow.alloc _) ⟨W.heap.size, 0, none⟩ 1 1 [.int .i64 (k : Int)] rfl rfl (World.news_of_block (cs := #[.int .i64 (k : Int)]) (t := 3) (fr := (0, 0)) (Go.heap_alloc_new W _)) (by simp [Value.oneCell']) (by omega) (by unfold maxLen; omega) (by omega) (by simp; omega) (W.heap.size + 1) (by simp) ?_)
      intro ga capa wa owna growa ata lta
      rw [HM.out] at owna
      have hP := (HR2.out.alloc (.cells #[.int .i64 (k : Int)] 3)).pushF growa owna
      rw [← HM.out] at hP
      have hblk := (growa.block rb (by simp; omega) (row_ne (hrow.alloc (.cells #[.int .i64 (k : Int)] 3)) (alloc_blk HR2.out.blk _) (by decide))).trans (alloc_blk HR2.out.blk _)
      have d3 := cell_blk hblk 3 rfl
      have v3 := free_blk hblk 3
      simp at d3
      have HP := Lib.hid hP
      clear hP owna growa ata lta hrow hblk
      go_wp2
      go_ret
      obtain ⟨hA, hF⟩ := HP.out.at { T with all := T.all.set k (g, false, 0), free := T.free ++ [k], count := T.count - 1 } rfl rfl (by simp) rfl (TA.drop_room_ok H.out.ok HK.out (by rw [← HG.out]; exact hroom))
      rw [HD.out]
      exact ⟨rfl, ⟨_, _, hA⟩, hF⟩
    · have HD := Lib.hid (show (T.drop 0 (k + 1) g).1 = { T with all := T.all.set k (g, false, 0), count := T.count - 1, ret := T.ret + 1 } by simp only [TA.drop, HA.out, Nat.add_sub_cancel]; rw [if_neg (by rw [← HG.out]; exact hroom)])
      have q5 : decide (g < G) = false := by simp; omega
      go_wp2
      go_quiet (fail)
      go_wp2
      go_ret
      have hfin := ((HR.out.slot rfl (g, false, y) HK.out 1 (.bool false) (by omega) rfl).slot (by simp) (k := k) (s := (g, false, y)) (g, false, 0) (by simp [(List.getElem?_eq_some_iff.1 HK.out).1]) 2 (.int .i64 0) (by omega) rfl).drewN nq
      obtain ⟨hA, hF⟩ := hfin.at { T with all := T.all.set k (g, false, 0), count := T.count - 1, ret := T.ret + 1 } rfl rfl (by simp) rfl (TA.drop_last_ok H.out.ok HK.out)
      rw [HD.out]
      exact ⟨rfl, ⟨_, _, hA⟩, hF⟩
end Go.Proofs.Ytlmbpbijhhnhpaa
