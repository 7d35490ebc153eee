/- The document's arena: Told: the handles that live, and their things, in the order of the slots. -/
import Derived.Test.YtlmbpbijhhnhpaaRfA
namespace Go.Proofs.Ytlmbpbijhhnhpaa
open Go.RowKit
set_option linter.unusedVariables false
set_option maxRecDepth 100000

/-- Who lives: slot, number, thing; in the order of the slots. -/
def tel (all : List (Nat × Bool × Int)) : List ((Nat × Nat) × Int) := all.zipIdx.filterMap fun p => if p.1.2.1 then some ((p.2 + 1, p.1.1), p.1.2.2) else none
theorem tel_snoc (all : List (Nat × Bool × Int)) (s : Nat × Bool × Int) : tel (all ++ [s]) = tel all ++ if s.2.1 then [((all.length + 1, s.1), s.2.2)] else [] := by
  unfold tel
  rw [List.zipIdx_append, List.filterMap_append]
  cases h : s.2.1 <;> simp [h]
theorem tel_take {all : List (Nat × Bool × Int)} {k : Nat} {s : Nat × Bool × Int} (h : all[k]? = some s) : tel (all.take (k + 1)) = tel (all.take k) ++ if s.2.1 then [((k + 1, s.1), s.2.2)] else [] := by
  have hk : k < all.length := (List.getElem?_eq_some_iff.1 h).1
  rw [List.take_add_one, h, Option.toList_some, tel_snoc]
  simp [Nat.min_eq_left (Nat.le_of_lt hk)]
theorem tel_le (all : List (Nat × Bool × Int)) : (tel all).length ≤ all.length := by
  unfold tel
  have := List.length_filterMap_le (fun p : (Nat × Bool × Int) × Nat => if p.1.2.1 then some ((p.2 + 1, p.1.1), p.1.2.2) else none) all.zipIdx
  simpa using this

def telH (l : List ((Nat × Nat) × Int)) : List (Nat × Nat) := l.map (·.1)
def telX (l : List ((Nat × Nat) × Int)) : List Value := l.map fun p => .int .i64 p.2

/-- What Told has laid so far. -/
structure TelI (w0 : World) (l : List ((Nat × Nat) × Int)) (hv xv : Value) (w : World) : Prop where
  rowH : w.ownsRow w0.heap.size 39 2 hv l.length (hcells (telH l))
  rowX : w.ownsRow w0.heap.size 3 1 xv l.length (telX l)
  bel : Below w0.heap.size w0 w
  le : w0.heap.size ≤ w.heap.size

theorem TelI.alloc {w0 w : World} {l : List ((Nat × Nat) × Int)} {hv xv : Value} (h : TelI w0 l hv xv w) (o : Obj) : TelI w0 l hv xv (w.alloc o) :=
  ⟨h.rowH.alloc o, h.rowX.alloc o, h.bel.alloc h.le o, by simp; have := h.le; omega⟩

set_option maxHeartbeats 2000000 in
theorem rf_told {B : Nat} {w : World} {rb : Nat} {T : TA Int} {av fv : Value} (h : RefAt B w rb T av fv) :
    Calls Try.prog 66 #[.pointer (some ⟨rb, 0, none⟩)] w fun e w' => ∃ hv xv, e = .returned (.tuple #[hv, xv]) ∧ TelI w (tel T.all) hv xv w' := by
  have hrb := lt_of_some h.blk
  obtain ⟨hl, _⟩ := h.len
  obtain ⟨sa, cap, rfl⟩ := h.slots
  obtain ⟨n, hn⟩ : ∃ n, n = T.all.length := ⟨_, rfl⟩
  rw [← hn] at hl
  have H := Lib.hid h
  have HN := Lib.hid hn
  clear h hn
  go_enter Try.func66, Try.ntmps66
  go_wp2_with fail
  go_loopw [4, 5, 6] (fun hv xv v wr => ∃ i : Nat, i ≤ n ∧ v = .int .i64 (i : Nat) ∧ TelI w (tel (T.all.take i)) hv xv wr) (fun _ _ v _ => n - (intOf v).toNat)
  case atStart => exact ⟨0, Nat.zero_le _, rfl, ⟨World.ownsRow_nil _ _ _ _, World.ownsRow_nil _ _ _ _, Below.refl _ _, Nat.le_refl _⟩⟩
  case round =>
    obtain ⟨i, hi, rfl, hI⟩ := hrel
    have hr := H.out.below hI.bel
    have a2 := cell_blk hr.blk 2 rfl
    simp at a2
    rw [← HN.out] at a2
    have HI := Lib.hid hI
    by_cases hlt : i < n
    · obtain ⟨s, hs⟩ : ∃ s, T.all[i]? = some s := ⟨_, List.getElem?_eq_getElem (by rw [← HN.out]; exact hlt)⟩
      obtain ⟨g, u, y⟩ := s
      obtain ⟨gb, cap', hav, hgb, c0, c1, c2⟩ := hr.slot hs
      obtain ⟨hg1, hg2⟩ := hr.gen hs
      simp at hav
      obtain ⟨rfl, rfl⟩ := hav
      simp only at c0 c1 c2 hg1 hg2
      have ht := tel_take hs
      have p1 : (i : Int) < (n : Int) := by omega
      have p2 : (0 : Int) ≤ (i : Int) := by omega
      have HT := Lib.hid ht
      have hrb' := lt_of_some hr.blk
      have hlen : (tel (T.all.take i)).length ≤ n := Nat.le_trans (tel_le _) (by simp [HN.out]; omega)
      obtain ⟨m, hm⟩ : ∃ m, m = (tel (T.all.take i)).length := ⟨_, rfl⟩
      rw [← hm] at hlen
      have HM := Lib.hid hm
      cases u with
      | false =>
        clear hI hr ht hs hm
        go_wp2
        go_roundw
        case rel => exact ⟨i + 1, hlt, by go_num, by rw [HT.out]; simpa using HI.out⟩
        case measure => simp [intOf]; omega
      | true =>
        have hle := hI.le
        have hrowH := hI.rowH
        have hrowX := hI.rowX
        rw [← hm] at hrowH hrowX
        obtain ⟨i39, hi39, ha1, ha2, ha3⟩ := info_parts (show (Try.prog.info? 39).map (fun i => (i.zero, i.size, i.bytes)) = some (some (.agg #[.int .u32 0, .int .u32 0]), 2, 8) by kernel_rfl)
        obtain ⟨i3, hi3, hb1, hb2, hb3⟩ := info_parts rf_info3
        have HR := Lib.hid hr
        have HS := Lib.hid hs
        have q1 : IntKind.u32.wrap ((i : Int) + 1) = (i : Int) + 1 := IntWalk.u32_in _ (by omega)
        have q2 : IntKind.u32.wrap (g : Int) = (g : Int) := IntWalk.u32_in _ (by omega)
        clear hI hr ht hs hm
        go_wp2_with (at_builtin; refine wpList_append_lies _ rfl (.tmp 24) (.tmp 38) 36 rfl w.heap.size 39 i39 _ 2 8 Try.underlying36 hi39 ha1 ha2 ha3 rfl (by omega) u4 m _ rfl (hrowH.alloc _) ⟨wr.heap.size, 0, none⟩ 1 1 [.int .u32 ((i : Int) + 1), .int .u32 (g : Int)] rfl rfl (World.news_of_block (cs := #[.int .u32 ((i : Int) + 1), .int .u32 (g : Int)]) (t := 39) (fr := (0, 0)) (Go.heap_alloc_new wr _)) (by simp [Value.oneCell']) (by omega) (by unfold maxLen; omega) (by omega) (by simp; omega) (wr.heap.size + 1) (by simp) ?_)
        intro ga capa wa owna growa ata lta
        have fa : FrT [39] w.heap.size wr wa := ((FrT.refl _ _ _).alloc _).append (hrowH.alloc _) (Nat.le_refl _) (by simp) growa
        have hra := HR.out.kept fa (by decide) (by decide) (by decide)
        have a2 := cell_blk hra.blk 2 rfl
        simp at a2
        rw [← HN.out] at a2
        obtain ⟨_, _, hav, hgba, c0, c1, c2⟩ := hra.slot HS.out
        simp at hav
        obtain ⟨rfl, rfl⟩ := hav
        simp only at c0 c1 c2
        have hrowXa := fa.row hrowX (by decide)
        have hbela := HI.out.bel.trans (fa.below hle)
        have hlea := Nat.le_trans hle fa.size
        have hrba := lt_of_some hra.blk
        have OWNA := Lib.hid owna
        have BELA := Lib.hid hbela
        clear hra fa owna growa ata lta hrowX hrowH hbela hrb'
        go_wp2_with (at_builtin; refine wpList_append_lies _ rfl (.tmp 40) (.tmp 49) 24 rfl w.heap.size 3 i3 _ 1 8 Try.underlying24 hi3 hb1 hb2 hb3 rfl (by omega) u5 m _ rfl (hrowXa.alloc _) ⟨wa.heap.size, 0, none⟩ 1 1 [.int .i64 y] rfl rfl (World.news_of_block (cs := #[.int .i64 y]) (t := 3) (fr := (0, 0)) (Go.heap_alloc_new wa _)) (by simp [Value.oneCell']) (by omega) (by unfold maxLen; omega) (by omega) (by simp; omega) (wa.heap.size + 1) (by simp) ?_)
        intro gb2 capb wb ownb growb atb ltb
        have fb : FrT [3] w.heap.size wa wb := ((FrT.refl _ _ _).alloc _).append (hrowXa.alloc _) (Nat.le_refl _) (by simp) growb
        have hfin : TelI w (tel (T.all.take (i + 1))) (.slice (some ⟨ga, 0, none⟩) (m + 1) capa) (.slice (some ⟨gb2, 0, none⟩) (m + 1) capb) wb := by
          rw [HT.out]
          refine ⟨?_, ?_, BELA.out.trans (fb.below hlea), Nat.le_trans hlea fb.size⟩
          · have := fb.row OWNA.out (by decide)
            simpa [telH, hcells, HM.out] using this
          · simpa [telX, HM.out] using ownb
        have HFIN := Lib.hid hfin
        have frb := fb.below hlea
        clear hfin fb ownb growb atb ltb hrowXa OWNA c0 c1 c2 a2
        go_wp2
        go_roundw
        case rel => exact ⟨i + 1, hlt, by go_num, HFIN.out⟩
        case measure => simp [intOf]; omega
    · have e : T.all.take i = T.all := List.take_of_length_le (by rw [← HN.out]; omega)
      rw [e] at HI
      clear hI hr
      go_wp2
      go_ret2
      exact ⟨_, _, rfl, HI.out⟩
end Go.Proofs.Ytlmbpbijhhnhpaa
