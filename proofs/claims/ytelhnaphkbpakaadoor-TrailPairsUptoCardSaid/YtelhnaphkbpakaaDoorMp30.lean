/- Part 30 of the proof of TpP: lemmas. -/
import Derived.Test.YtelhnaphkbpakaaDoorMp29
namespace Go.Proofs.YtelhnaphkbpakaaDoor
open Go.RowKit
set_option linter.unusedVariables false
set_option maxRecDepth 100000
section
variable {B : Nat} {Q : Nat → Prop} {w w' : World} {tb : Nat} {X : TX}
theorem link_ok (h : TreeAt B Q w tb X) {u i : Nat} {xu xi : FN} (hu : X.F[u]? = some xu) (hul : xu.live = true) (hi : X.F[i]? = some xi) (hil : xi.live = true) (hir : xi.up = none)
    {c : List Nat} (hc : Chain X.F u c) (hni : i ∉ c) {l1 l2 : List Nat} (hl : xu.down = l1 ++ l2) {bs bg : Nat} (hb : hd X.F l2.head? = (bs, bg)) :
    Calls Tryd.prog 71 #[.pointer (some ⟨tb, 0, none⟩), .agg #[.int .u32 (xu.sl : Int), .int .u32 (xu.gn : Int)], .agg #[.int .u32 (xi.sl : Int), .int .u32 (xi.gn : Int)], .agg #[.int .u32 (bs : Int), .int .u32 (bg : Int)]] w fun e w' =>
      e = .returned (.int .i64 0) ∧ TreeAt B Q w' tb { X with F := hng X.F i u l1.length } ∧ FrG [120] Q w w' := by
  cases hf : l1.getLast? with
  | none =>
    have h1 : l1 = [] := List.getLast?_eq_none_iff.1 hf
    cases hh : l2.head? with
    | none =>
      have h2 : l2 = [] := List.head?_eq_none_iff.1 hh
      rw [hh] at hb
      cases hb
      exact link_00 h hu hul hi hil hir hc hni hl h1 h2
    | some b =>
      rw [hh] at hb
      exact link_01 h hu hul hi hil hir hc hni hl h1 hh hb
  | some f =>
    cases hh : l2.head? with
    | none =>
      have h2 : l2 = [] := List.head?_eq_none_iff.1 hh
      rw [hh] at hb
      cases hb
      exact link_10 h hu hul hi hil hir hc hni hl hf rfl h2
    | some b =>
      rw [hh] at hb
      exact link_11 h hu hul hi hil hir hc hni hl hf rfl hh hb
end
theorem FOk.nil : FOk [] := ⟨by simp, by simp, by simp, by simp, by simp⟩
set_option maxHeartbeats 1000000 in
theorem newT_calls (S G : Nat) (B : Nat) (w : World) (hB : B ≤ w.heap.size) (h1 : 1 ≤ S) (h2 : S ≤ 2147483647) (h3 : 1 ≤ G) (h4 : G ≤ 4294967295) :
    Calls Tryd.prog 35 #[.int .i64 (S : Int), .int .i64 (G : Int)] w fun e w' => ∃ tb ab, e = .returned (.tuple #[.pointer (some ⟨tb, 0, none⟩), .int .i64 0]) ∧
      TreeAt B (fun k => w.heap.size ≤ k ∧ k < w'.heap.size) w' tb ⟨[], [], TA.new S G, ab, .slice none 0 0, .slice none 0 0⟩ ∧ Below w.heap.size w w' := by
  have HN := Lib.hid (arNTop_new S G B w hB h1 h2 h3 h4)
  have HB := Lib.hid hB
  clear hB h1 h2 h3 h4
  go_enter Tryd.func35, Tryd.ntmps35
  go_wp2_with fail
  refine HN.out.mono ?_
  rintro e w1 ⟨rfl, ha, b1⟩
  have HA := Lib.hid ha
  have HB1 := Lib.hid b1
  clear ha b1
  go_wp2_with fail
  go_ret2
  have l1 := HA.out.lt
  have lB : w.heap.size ≤ w1.heap.size := HB1.out.size
  have bn : Below w1.heap.size w1 (w1.alloc (.cells #[.pointer (some ⟨w.heap.size, 0, none⟩), .int .u64 0, .int .i64 (S : Int), .int .i64 (G : Int), .slice none 0 0, .slice none 0 0] 112)) := (Below.refl _ _).alloc (Nat.le_refl _) _
  refine ⟨w1.heap.size, w.heap.size, rfl, ⟨FOk.nil, rfl, Nat.zero_le _, Nat.zero_le _, ⟨fun k => w.heap.size ≤ k ∧ k < w1.heap.size, HA.out.below bn, fun k hk => ⟨⟨hk.1, by simp; omega⟩, by simp; omega⟩, fun k hk => by cases hk⟩, ⟨⟨lB, by simp⟩, Nat.le_trans HB.out lB⟩, Go.heap_alloc_new w1 _, ⟨⟨[], World.ownsRow_nil _ _ _ _⟩, fun k hk => by cases hk⟩, ⟨⟨[], World.ownsRow_nil _ _ _ _⟩, fun k hk => by cases hk⟩, by simp, by simp [TA.new], by simp, by simp, by simp⟩, HB1.out.trans (bn.mono lB)⟩
theorem alloc_room {T : TA (Option Addr)} (ok : (T.ar encN).Ok 1) (h : T.free ≠ [] ∨ T.all.length < T.S) :
    (T.free = [] ∧ ∀ x, T.alloc x = ({ T with all := T.all ++ [(1, true, x)], count := T.count + 1 }, T.all.length + 1, 1, 0)) ∨
    (∃ l k g y, T.free = l ++ [k] ∧ T.all[k]? = some (g, false, y) ∧ g < T.G ∧ ∀ x, T.alloc x = ({ T with all := T.all.set k (g + 1, true, x), free := l, count := T.count + 1 }, k + 1, g + 1, 0)) := by
  cases hg : T.free.getLast? with
  | none =>
    have hf : T.free = [] := List.getLast?_eq_none_iff.1 hg
    rw [hf] at h
    have hl : T.all.length < T.S := by rcases h with h | h; exact absurd rfl h; exact h
    exact .inl ⟨hf, fun x => by unfold TA.alloc; rw [hg]; simp [hl]⟩
  | some k =>
    obtain ⟨l, hl⟩ : ∃ l, T.free = l ++ [k] := by
      obtain ⟨hne, he⟩ := List.getLast?_eq_some_iff.1 hg
      exact ⟨_, he⟩
    obtain ⟨g, t, h1, h2⟩ := ok.free k (by show k ∈ T.free; rw [hl]; simp)
    simp only [TA.ar, List.getElem?_map, Option.map_eq_some_iff] at h1
    obtain ⟨⟨g', u, y⟩, h3, h4⟩ := h1
    simp only [Prod.mk.injEq] at h4
    obtain ⟨rfl, rfl, _⟩ := h4
    refine .inr ⟨l, k, g', y, hl, h3, h2, fun x => ?_⟩
    have hd : T.free.dropLast = l := by rw [hl]; simp
    simp only [TA.alloc, hg, h3, hd]
section
variable {B : Nat} {Q : Nat → Prop} {w w' : World} {tb : Nat} {X : TX}
theorem TreeAt.made (h : TreeAt B Q w tb X) (hok : (X.T.ar encN).Ok 1) {s g nb : Nat} {P : Nd} {hv fv : Value} {Qa : Nat → Prop} {T' : TA (Option Addr)}
    (hbig : X.F.length < 1099511627776)
    (hT : (X.T.free = [] ∧ s = X.T.all.length + 1 ∧ g = 1 ∧ T' = { X.T with all := X.T.all ++ [(1, true, some ⟨nb, 0, none⟩)], count := X.T.count + 1 }) ∨
      (∃ l k g0 y, X.T.free = l ++ [k] ∧ X.T.all[k]? = some (g0, false, y) ∧ s = k + 1 ∧ g = g0 + 1 ∧ T' = { X.T with all := X.T.all.set k (g0 + 1, true, some ⟨nb, 0, none⟩), free := l, count := X.T.count + 1 }))
    (f : FrG [145, 150, 29, 112, 31] Q w w') (hB : B ≤ w.heap.size) (hnb : w.heap.size ≤ nb) (hn : w'.heap[nb]? = some (.cells (ncells P (fun _ => (0, 0)) (X.F.length + 1)) 120 (0, 0))) (hP : Fresh B w' P)
    (hblk : w'.heap[tb]? = some (.cells #[.pointer (some ⟨X.ab, 0, none⟩), .int .u64 ((X.F.length + 1 : Nat) : Int), .int .i64 (T'.S : Int), .int .i64 (T'.G : Int), hv, fv] 112 (0, 0)))
    (har : ArNOf B Qa w' X.ab T') (hqa : ∀ k, Qa k → (Q k ∨ w.heap.size ≤ k ∧ k < w'.heap.size) ∧ k < w'.heap.size) (hqh : ∀ k, hv.ownBlock = some k → ¬ Qa k)
    (hhad : ∃ hc, w'.ownsRow B 29 1 hv T'.all.length hc) (hhq : ∀ k, hv.ownBlock = some k → Q k ∨ w.heap.size ≤ k)
    (hfre : ∃ fc, w'.ownsRow B 31 2 fv T'.free.length fc) (hfq : ∀ k, fv.ownBlock = some k → Q k ∨ w.heap.size ≤ k) :
    TreeAt B (fun k => Q k ∨ w.heap.size ≤ k ∧ k < w'.heap.size) w' tb ⟨Made X.F s g, X.M ++ [(nb, P)], T', X.ab, hv, fv⟩ := by
  have hML := h.rw.lenM
  have hold : ∀ (k : Nat) (x : FN), X.F[k]? = some x → x.live = true → T'.all[x.sl - 1]? = X.T.all[x.sl - 1]? := by
    intro k x hx hl
    obtain ⟨h1, nb', P', h2, h3⟩ := h.rw.slot k x hx hl
    rcases hT with ⟨_, _, _, rfl⟩ | ⟨l, k0, g0, y, _, h4, _, _, rfl⟩
    · show (X.T.all ++ _)[_]? = _
      rw [List.getElem?_append_left (List.getElem?_eq_some_iff.1 h3).1]
    · show (X.T.all.set k0 _)[_]? = _
      rw [List.getElem?_set_ne]
      rintro rfl
      rw [h4] at h3
      cases h3
  have hnew : 1 ≤ s ∧ T'.all[s - 1]? = some (g, true, some ⟨nb, 0, none⟩) := by
    rcases hT with ⟨_, rfl, rfl, rfl⟩ | ⟨l, k0, g0, y, _, h4, rfl, rfl, rfl⟩
    · exact ⟨by omega, by show (X.T.all ++ _)[_]? = _; simp⟩
    · refine ⟨by omega, ?_⟩
      show (X.T.all.set k0 _)[_]? = _
      have := (List.getElem?_eq_some_iff.1 h4).1
      simp [this]
  have hsz := f.size
  have hMget : ∀ k nb' P', X.M[k]? = some (nb', P') → (X.M ++ [(nb, P)])[k]? = some (nb', P') := fun k nb' P' hk => by rw [List.getElem?_append_left (List.getElem?_eq_some_iff.1 hk).1]; exact hk
  have hMlast : (X.M ++ [(nb, P)])[X.F.length]? = some (nb, P) := by rw [← hML]; simp
  refine ⟨h.fok.made s g, ⟨by simp [made_len, hML], ?_, by show (Made X.F s g).length ≤ _; rw [made_len]; omega, ⟨Qa, har, hqa, hqh⟩, ⟨.inl h.rw.own.1, h.rw.own.2⟩, ?_, ⟨hhad, fun k hk => ?_⟩, ⟨hfre, fun k hk => ?_⟩, ?_, ?_, ?_, ?_, ?_⟩⟩
  · show T'.all.length ≤ (Made X.F s g).length
    rw [made_len]
    have := h.rw.few
    rcases hT with ⟨_, _, _, rfl⟩ | ⟨l, k0, g0, y, _, h4, _, _, rfl⟩
    · simp; omega
    · simp; omega
  · show w'.heap[tb]? = some (.cells #[_, .int .u64 ((Made X.F s g).length : Int), _, _, _, _] _ _)
    rw [made_len]
    exact hblk
  · obtain ⟨hc, hr⟩ := hhad
    rcases hhq k hk with h1 | h1
    · exact .inl h1
    · exact .inr ⟨h1, (hr.lt k hk).2⟩
  · obtain ⟨hc, hr⟩ := hfre
    rcases hfq k hk with h1 | h1
    · exact .inl h1
    · exact .inr ⟨h1, (hr.lt k hk).2⟩
  · intro k x hx hl
    rcases made_cases hx with ⟨h1, _⟩ | ⟨rfl, rfl⟩
    · obtain ⟨a1, nb', P', a2, a3⟩ := h.rw.slot k x h1 hl
      exact ⟨a1, nb', P', hMget _ _ _ a2, (hold k x h1 hl).trans a3⟩
    · exact ⟨hnew.1, nb, P, hMlast, hnew.2⟩
  · intro s' g' p hp
    have key : X.T.all[s']? = some (g', true, p) ∨ (s' + 1 = s ∧ g' = g) := by
      rcases hT with ⟨_, rfl, rfl, rfl⟩ | ⟨l, k0, g0, y, _, h4, rfl, rfl, rfl⟩
      · have hp : (X.T.all ++ [(1, true, some ⟨nb, 0, none⟩)])[s']? = some (g', true, p) := hp
        rcases Nat.lt_or_ge s' X.T.all.length with h1 | h1
        · rw [List.getElem?_append_left h1] at hp; exact .inl hp
        · rw [List.getElem?_append_right h1] at hp
          obtain ⟨h2, h3⟩ := List.getElem?_eq_some_iff.1 hp
          simp at h2 h3
          exact .inr ⟨by omega, h3.1.symm⟩
      · have hp : (X.T.all.set k0 (g0 + 1, true, some ⟨nb, 0, none⟩))[s']? = some (g', true, p) := hp
        by_cases e : s' = k0
        · subst e
          have := (List.getElem?_eq_some_iff.1 h4).1
          simp [this] at hp
          exact .inr ⟨rfl, hp.1.symm⟩
        · rw [List.getElem?_set_ne (Ne.symm e)] at hp; exact .inl hp
    rcases key with h1 | ⟨h1, rfl⟩
    · obtain ⟨k, x, a1, a2, a3, a4⟩ := h.rw.used s' g' p h1
      exact ⟨k, x, by show (Made X.F s g)[k]? = _; rw [made_lt (List.getElem?_eq_some_iff.1 a1).1]; exact a1, a2, a3, a4⟩
    · exact ⟨X.F.length, _, made_at, rfl, h1.symm, rfl⟩
  · intro k x nb' P' hx hl hm
    rcases made_cases hx with ⟨h1, h2⟩ | ⟨rfl, rfl⟩
    · have hm' : X.M[k]? = some (nb', P') := by
        have : (X.M ++ [(nb, P)])[k]? = X.M[k]? := List.getElem?_append_left (by rw [hML]; exact h2)
        rw [← this]; exact hm
      obtain ⟨a1, a2, a3, a4⟩ := h.rw.node k x nb' P' h1 hl hm'
      refine ⟨a1, .inl a2, ?_, a4.frg f (by decide) (by decide)⟩
      have e : ncells P' (toH (Made X.F s g) k) (k + 1) = ncells P' (toH X.F k) (k + 1) := by
        have : ∀ j, toH (Made X.F s g) k j = toH X.F k j := fun j => by
          unfold toH
          rw [lk_made h.fok h2 j, hd_made (fun m hm => h.fok.lk_lt hm)]
        unfold ncells
        rw [this 0, this 1, this 2, this 3, this 4]
      rw [e]
      exact f.blk a3 (by decide)
    · have hm : (X.M ++ [(nb, P)])[X.F.length]? = some (nb', P') := hm
      rw [hMlast] at hm
      cases hm
      have e : ncells P (toH (Made X.F s g) X.F.length) (X.F.length + 1) = ncells P (fun _ => (0, 0)) (X.F.length + 1) := by
        have : ∀ j, toH (Made X.F s g) X.F.length j = (0, 0) := fun j => by unfold toH; rw [lk_new]; rfl
        unfold ncells
        rw [this 0, this 1, this 2, this 3, this 4]
      refine ⟨Nat.le_trans hB hnb, .inr ⟨hnb, lt_of_some hn⟩, ?_, hP⟩
      show w'.heap[nb]? = some (.cells (ncells P (toH (Made X.F s g) X.F.length) (X.F.length + 1)) _ _)
      rw [e]; exact hn
  · show ((X.M ++ [(nb, P)]).map Prod.fst).Nodup
    rw [List.map_append]
    refine List.nodup_append.2 ⟨h.rw.nbd, by simp, ?_⟩
    intro a ha b hb
    simp at hb
    subst hb
    obtain ⟨p, hp, rfl⟩ := List.mem_map.1 ha
    have := h.rw.nbl p hp
    omega
  · intro p hp
    rcases List.mem_append.1 hp with hp | hp
    · exact Nat.lt_of_lt_of_le (h.rw.nbl p hp) hsz
    · simp at hp; subst hp; exact lt_of_some hn
end
structure MkR (B : Nat) (Qa : Nat → Prop) (w W : World) (X : TX) (N : Nd) (s g len nb c7 : Nat) (P : Nd) : Prop where
  fr : FrG [145, 150, 29] Qa w W
  ar : ArNOf B (fun k => Qa k ∨ w.heap.size ≤ k ∧ k < W.heap.size) W X.ab (X.T.alloc (some ⟨nb, 0, none⟩)).1
  node : W.heap[nb]? = some (.cells (ncells P (fun _ => (0, 0)) (len + 1)) 120 (0, 0))
  box : W.heap[c7]? = some (.cells #[.int .u32 (s : Int), .int .u32 (g : Int)] 31 (0, 0))
  res : W.heap[w.heap.size + 1]? = some (.cells #[.int .u32 0, .int .u32 0] 31 (0, 0))
  far : w.heap.size + 1 < nb ∧ w.heap.size + 1 < c7
  own : Fresh w.heap.size W P
  same : P.Same N
structure MkS (B : Nat) (Q Qa : Nat → Prop) (w W : World) (z tb : Nat) (X : TX) (s g len nb c7 : Nat) (P : Nd) (hv fv : Value) (nh nf : Nat) (r0 r1 : Value) : Prop where
  fr : FrG [145, 150, 29, 112, 31] Q w W
  ar : ArNOf B (fun k => Qa k ∨ w.heap.size ≤ k ∧ k < z) W X.ab (X.T.alloc (some ⟨nb, 0, none⟩)).1
  node : W.heap[nb]? = some (.cells (ncells P (fun _ => (0, 0)) (len + 1)) 120 (0, 0))
  box : W.heap[c7]? = some (.cells #[.int .u32 (s : Int), .int .u32 (g : Int)] 31 (0, 0))
  res : W.heap[w.heap.size + 1]? = some (.cells #[r0, r1] 31 (0, 0))
  far : w.heap.size + 1 < nb ∧ w.heap.size + 1 < c7
  own : Fresh w.heap.size W P
  blk : W.heap[tb]? = some (.cells #[.pointer (some ⟨X.ab, 0, none⟩), .int .u64 ((len : Int) + 1), .int .i64 (X.T.S : Int), .int .i64 (X.T.G : Int), hv, fv] 112 (0, 0))
  qt : Q tb
  had : ∃ hc, W.ownsRow B 29 1 hv nh hc
  hq : ∀ k, hv.ownBlock = some k → (Q k ∨ w.heap.size ≤ k) ∧ ¬ Qa k ∧ (w.heap.size ≤ k → z ≤ k)
  fre : ∃ fc, W.ownsRow B 31 2 fv nf fc
  fq : ∀ k, fv.ownBlock = some k → Q k ∧ k < w.heap.size
  zz : z ≤ W.heap.size ∧ w.heap.size + 1 < z
  qa : ∀ k, Qa k → Q k ∧ k < w.heap.size
section
variable {B : Nat} {Q Qa : Nat → Prop} {w W W' : World} {z tb : Nat} {X : TX} {s g len nb c7 : Nat} {P : Nd} {hv fv : Value} {nh nf : Nat} {r0 r1 : Value}
theorem MkS.below (h : MkS B Q Qa w W z tb X s g len nb c7 P hv fv nh nf r0 r1) (b : Below W.heap.size W W') : MkS B Q Qa w W' z tb X s g len nb c7 P hv fv nh nf r0 r1 := by
  have f : FrG [] (fun _ => False) W W' := FrG.of_below b
  exact ⟨h.fr.andBelow b, h.ar.below b, f.blk h.node (by simp), f.blk h.box (by simp), f.blk h.res (by simp), h.far, h.own.below b, f.blk h.blk (by simp), h.qt, by obtain ⟨hc, hr⟩ := h.had; exact ⟨hc, f.row hr (by simp)⟩, h.hq, by obtain ⟨fc, hr⟩ := h.fre; exact ⟨fc, f.row hr (by simp)⟩, h.fq, ⟨Nat.le_trans h.zz.1 b.size, h.zz.2⟩, h.qa⟩
theorem mks_start (h : TreeAt B Q w tb X) {N : Nd} (hqa : ∀ k, Qa k → Q k ∧ k < w.heap.size) (hqh : ∀ k, X.hv.ownBlock = some k → ¬ Qa k) (hm : MkR B Qa w W X N s g len nb c7 P) (hlen : len = X.F.length) (hz : w.heap.size + 1 < W.heap.size) :
    MkS B Q Qa w (W.setCell ⟨tb, 1, none⟩ (.int .u64 ((len : Int) + 1))) W.heap.size tb X s g len nb c7 P X.hv X.fv X.T.all.length X.T.free.length (.int .u32 0) (.int .u32 0) := by
  have hb := hm.fr.blk h.rw.blk (by decide)
  have f1 : FrG [112] (fun k => k = tb) W (W.setCell ⟨tb, 1, none⟩ (.int .u64 ((len : Int) + 1))) := (FrG.refl [112] (fun k => k = tb) W).set (a := ⟨tb, 1, none⟩) (.inl rfl) hb (List.mem_singleton.2 rfl) _
  refine ⟨(hm.fr.mono (T' := [145, 150, 29, 112, 31]) (by decide) (fun k hk => (hqa k hk).1)).set (a := ⟨tb, 1, none⟩) (.inl h.rw.own.1) hb (by decide) _, hm.ar.kept f1 (by decide) (by decide) (by decide), f1.blk hm.node (by decide), f1.blk hm.box (by decide), f1.blk hm.res (by decide), hm.far, hm.own.frg f1 (by decide) (by decide), set_blk hb 1 _, h.rw.own.1, ?_, ?_, ?_, ?_, ⟨by simp, hz⟩, hqa⟩
  · obtain ⟨hc, hr⟩ := h.rw.had.1; exact ⟨hc, f1.row (hm.fr.rowQ hr hqh) (by decide)⟩
  · intro k hk
    obtain ⟨hc, hr⟩ := h.rw.had.1
    have := (hr.lt k hk).2
    exact ⟨.inl (h.rw.had.2 k hk), hqh k hk, fun hh => by omega⟩
  · obtain ⟨fc, hr⟩ := h.rw.fre.1; exact ⟨fc, f1.row (hm.fr.row hr (by decide)) (by decide)⟩
  · intro k hk
    obtain ⟨fc, hr⟩ := h.rw.fre.1
    exact ⟨h.rw.fre.2 k hk, (hr.lt k hk).2⟩
theorem MkS.push (h : MkS B Q Qa w W z tb X s g len nb c7 P hv fv nh nf r0 r1) (hg : W.grownBy W' hv.ownBlock) {gg cap : Nat} {cs : List Value} (ho : W'.ownsRow B 29 1 (.slice (some ⟨gg, 0, none⟩) (nh + 1) cap) (nh + 1) cs) (hat : hv.ownBlock = some gg ∨ z ≤ gg) :
    MkS B Q Qa w (W'.setCell ⟨tb, 4, none⟩ (.slice (some ⟨gg, 0, none⟩) (nh + 1) cap)) z tb X s g len nb c7 P (.slice (some ⟨gg, 0, none⟩) (nh + 1) cap) fv (nh + 1) nf r0 r1 := by
  obtain ⟨hc, hr⟩ := h.had
  have fg : FrG [29] (fun k => hv.ownBlock = some k) W W' := (FrG.refl [29] (fun k => hv.ownBlock = some k) W).append hr (fun k hk => .inl hk) (List.mem_singleton.2 rfl) hg
  have hb := fg.blk h.blk (by decide)
  have f1 : FrG [112] (fun k => k = tb) W' (W'.setCell ⟨tb, 4, none⟩ (.slice (some ⟨gg, 0, none⟩) (nh + 1) cap)) := (FrG.refl [112] (fun k => k = tb) W').set (a := ⟨tb, 4, none⟩) (.inl rfl) hb (List.mem_singleton.2 rfl) _
  have hna : ∀ k, (Qa k ∨ w.heap.size ≤ k ∧ k < z) → ¬ hv.ownBlock = some k := fun k hk e => by
    obtain ⟨_, h2, h3⟩ := h.hq k e
    rcases hk with hk | hk
    · exact h2 hk
    · have := h3 hk.1; omega
  refine ⟨((h.fr.trans (fg.mono (T' := [145, 150, 29, 112, 31]) (by decide) (fun k hk => hk)) (fun k hk => (h.hq k hk).1))).set (a := ⟨tb, 4, none⟩) (.inl h.qt) hb (by decide) _, (h.ar.keptQ fg hna).kept f1 (by decide) (by decide) (by decide), f1.blk (fg.blk h.node (by decide)) (by decide), f1.blk (fg.blk h.box (by decide)) (by decide), f1.blk (fg.blk h.res (by decide)) (by decide), h.far, (h.own.frg fg (by decide) (by decide)).frg f1 (by decide) (by decide), set_blk hb 4 _, h.qt, ⟨cs, f1.row ho (by decide)⟩, ?_, ?_, h.fq, ⟨Nat.le_trans h.zz.1 (by simpa using hg.size), h.zz.2⟩, h.qa⟩
  · intro k hk
    cases hk
    rcases hat with e | e
    · exact h.hq gg e
    · exact ⟨.inr (Nat.le_trans (Nat.le_trans (Nat.le_succ _) (Nat.le_of_lt h.zz.2)) e), fun hq => absurd (h.qa gg hq).2 (Nat.not_lt.2 (Nat.le_trans (Nat.le_trans (Nat.le_succ _) (Nat.le_of_lt h.zz.2)) e)), fun _ => e⟩
  · obtain ⟨fc, hf⟩ := h.fre; exact ⟨fc, f1.row (fg.row hf (by decide)) (by decide)⟩
theorem MkS.pop (h : MkS B Q Qa w W z tb X s g len nb c7 P hv fv nh nf r0 r1) {fv' : Value} {nf' : Nat} (hr : ∃ fc, W.ownsRow B 31 2 fv' nf' fc) (hq : ∀ k, fv'.ownBlock = some k → fv.ownBlock = some k) :
    MkS B Q Qa w (W.setCell ⟨tb, 5, none⟩ fv') z tb X s g len nb c7 P hv fv' nh nf' r0 r1 := by
  have f1 : FrG [112] (fun k => k = tb) W (W.setCell ⟨tb, 5, none⟩ fv') := (FrG.refl [112] (fun k => k = tb) W).set (a := ⟨tb, 5, none⟩) (.inl rfl) h.blk (List.mem_singleton.2 rfl) _
  refine ⟨h.fr.set (a := ⟨tb, 5, none⟩) (.inl h.qt) h.blk (by decide) _, h.ar.kept f1 (by decide) (by decide) (by decide), f1.blk h.node (by decide), f1.blk h.box (by decide), f1.blk h.res (by decide), h.far, h.own.frg f1 (by decide) (by decide), set_blk h.blk 5 _, h.qt, ?_, h.hq, ?_, fun k hk => h.fq k (hq k hk), ⟨by simpa using h.zz.1, h.zz.2⟩, h.qa⟩
  · obtain ⟨hc, hr⟩ := h.had; exact ⟨hc, f1.row hr (by decide)⟩
  · obtain ⟨fc, hr⟩ := hr; exact ⟨fc, f1.row hr (by decide)⟩
theorem MkS.count {gg cap : Nat} (h : MkS B Q Qa w W z tb X s g len nb c7 P (.slice (some ⟨gg, 0, none⟩) nh cap) fv nh nf r0 r1) (i : Nat) (v : Value) :
    MkS B Q Qa w (W.setCell ⟨gg, i, none⟩ v) z tb X s g len nb c7 P (.slice (some ⟨gg, 0, none⟩) nh cap) fv nh nf r0 r1 := by
  obtain ⟨hc, hr⟩ := h.had
  obtain ⟨cur, hcur, _⟩ := ownsRow_blk hr
  have f1 : FrG [29] (fun k => k = gg) W (W.setCell ⟨gg, i, none⟩ v) := (FrG.refl [29] (fun k => k = gg) W).set (a := ⟨gg, i, none⟩) (.inl rfl) hcur (List.mem_singleton.2 rfl) _
  have hna : ∀ k, (Qa k ∨ w.heap.size ≤ k ∧ k < z) → ¬ k = gg := fun k hk e => by
    subst e
    obtain ⟨_, h2, h3⟩ := h.hq k rfl
    rcases hk with hk | hk
    · exact h2 hk
    · have := h3 hk.1; omega
  refine ⟨h.fr.set (a := ⟨gg, i, none⟩) (h.hq gg rfl).1 hcur (by decide) _, h.ar.keptQ f1 hna, f1.blk h.node (by decide), f1.blk h.box (by decide), f1.blk h.res (by decide), h.far, h.own.frg f1 (by decide) (by decide), f1.blk h.blk (by decide), h.qt, ⟨_, (hr.stored i v).1⟩, h.hq, ?_, h.fq, ⟨by simpa using h.zz.1, h.zz.2⟩, h.qa⟩
  obtain ⟨fc, hf⟩ := h.fre; exact ⟨fc, f1.row hf (by decide)⟩
theorem MkS.told (h : MkS B Q Qa w W z tb X s g len nb c7 P hv fv nh nf r0 r1) (a b : Value) :
    MkS B Q Qa w ((W.setCell ⟨w.heap.size + 1, 0, none⟩ a).setCell ⟨w.heap.size + 1, 1, none⟩ b) z tb X s g len nb c7 P hv fv nh nf a b := by
  have h1 := set_blk h.res 0 a
  have f1 : FrG [31] (fun k => k = w.heap.size + 1) W ((W.setCell ⟨w.heap.size + 1, 0, none⟩ a).setCell ⟨w.heap.size + 1, 1, none⟩ b) := ((FrG.refl [31] (fun k => k = w.heap.size + 1) W).set (a := ⟨w.heap.size + 1, 0, none⟩) (.inl rfl) h.res (List.mem_singleton.2 rfl) _).set (a := ⟨w.heap.size + 1, 1, none⟩) (.inl rfl) h1 (List.mem_singleton.2 rfl) _
  have hl : w.heap.size ≤ w.heap.size + 1 := by omega
  refine ⟨(h.fr.setNew (a := ⟨w.heap.size + 1, 0, none⟩) hl _).setNew (a := ⟨w.heap.size + 1, 1, none⟩) hl _, h.ar.kept f1 (by decide) (by decide) (by decide), f1.blk h.node (by decide), f1.blkQ h.box (by have := h.far.2; omega), set_blk h1 1 _, h.far, h.own.frg f1 (by decide) (by decide), f1.blk h.blk (by decide), h.qt, ?_, h.hq, ?_, h.fq, ⟨by simpa using h.zz.1, h.zz.2⟩, h.qa⟩
  · obtain ⟨hc, hr⟩ := h.had; exact ⟨hc, f1.row hr (by decide)⟩
  · obtain ⟨fc, hr⟩ := h.fre; exact ⟨fc, f1.rowQ hr (fun k hk e => by have := (h.fq k hk).2; omega)⟩
theorem MkS.pblk (h : MkS B Q Qa w W z tb X s g len nb c7 P hv fv nh nf r0 r1) (hg : W.grownBy W' hv.ownBlock) : W'.heap[tb]? = some (.cells #[.pointer (some ⟨X.ab, 0, none⟩), .int .u64 ((len : Int) + 1), .int .i64 (X.T.S : Int), .int .i64 (X.T.G : Int), hv, fv] 112 (0, 0)) := by
  obtain ⟨hc, hr⟩ := h.had
  exact ((FrG.refl [29] (fun k => hv.ownBlock = some k) W).append hr (fun k hk => .inl hk) (List.mem_singleton.2 rfl) hg).blk h.blk (by decide)
theorem MkS.hcell {gg cap : Nat} (h : MkS B Q Qa w W z tb X s g len nb c7 P (.slice (some ⟨gg, 0, none⟩) nh cap) fv nh nf r0 r1) {i : Nat} (hi : i < nh) : ∃ v, W.cell? ⟨gg, i, none⟩ = some v ∧ W.frozen? ⟨gg, i, none⟩ = false := by
  obtain ⟨hc, hr⟩ := h.had
  have hl := hr.1
  have hl2 : i < hc.length := by omega
  exact ⟨hc[i], (hr.cellAt i (by omega)).trans (List.getElem?_eq_getElem hl2), hr.frozenAt i⟩
theorem MkS.done (h : TreeAt B Q w tb X) (hok : (X.T.ar encN).Ok 1) (hbig : X.F.length < 1099511627776) (hS : MkS B Q Qa w W z tb X s g X.F.length nb c7 P hv fv nh nf r0 r1)
    (hT : (X.T.free = [] ∧ s = X.T.all.length + 1 ∧ g = 1 ∧ nh = X.T.all.length + 1 ∧ nf = X.T.free.length ∧ X.T.alloc (some ⟨nb, 0, none⟩) = ({ X.T with all := X.T.all ++ [(1, true, some ⟨nb, 0, none⟩)], count := X.T.count + 1 }, s, g, 0)) ∨
      (∃ l k g0 y, X.T.free = l ++ [k] ∧ X.T.all[k]? = some (g0, false, y) ∧ s = k + 1 ∧ g = g0 + 1 ∧ nh = X.T.all.length ∧ nf = l.length ∧ X.T.alloc (some ⟨nb, 0, none⟩) = ({ X.T with all := X.T.all.set k (g0 + 1, true, some ⟨nb, 0, none⟩), free := l, count := X.T.count + 1 }, s, g, 0))) :
    TreeAt B (fun k => Q k ∨ w.heap.size ≤ k ∧ k < W.heap.size) W tb ⟨Made X.F s g, X.M ++ [(nb, P)], (X.T.alloc (some ⟨nb, 0, none⟩)).1, X.ab, hv, fv⟩ ∧ FrG [145, 150, 29, 112, 31] Q w W := by
  have hBw : B ≤ w.heap.size := Nat.le_trans h.rw.own.2 (Nat.le_of_lt (lt_of_some h.rw.blk))
  have hnb : w.heap.size ≤ nb := by have := hS.far.1; omega
  have hhq := fun k hk => (hS.hq k hk).1
  have hqh : ∀ k, hv.ownBlock = some k → ¬ (Qa k ∨ w.heap.size ≤ k ∧ k < z) := fun k hk e => by
    obtain ⟨_, h2, h3⟩ := hS.hq k hk
    rcases e with e | e
    · exact h2 e
    · have := h3 e.1; omega
  have hqa : ∀ k, (Qa k ∨ w.heap.size ≤ k ∧ k < z) → (Q k ∨ w.heap.size ≤ k ∧ k < W.heap.size) ∧ k < W.heap.size := fun k hk => by
    rcases hk with hk | hk
    · exact ⟨.inl (hS.qa k hk).1, Nat.lt_of_lt_of_le (hS.qa k hk).2 hS.fr.size⟩
    · exact ⟨.inr ⟨hk.1, Nat.lt_of_lt_of_le hk.2 hS.zz.1⟩, Nat.lt_of_lt_of_le hk.2 hS.zz.1⟩
  have hP : Fresh B W P := hS.own.mono hBw
  refine ⟨?_, hS.fr⟩
  rcases hT with ⟨t1, t2, t3, t4, t5, t6⟩ | ⟨l, k, g0, y, t1, t2, t3, t4, t5, t6, t7⟩
  · have e1 : (X.T.alloc (some ⟨nb, 0, none⟩)).1 = { X.T with all := X.T.all ++ [(1, true, some ⟨nb, 0, none⟩)], count := X.T.count + 1 } := by rw [t6]
    have har := hS.ar
    rw [e1] at har ⊢
    exact h.made hok hbig (.inl ⟨t1, t2, t3, rfl⟩) hS.fr hBw hnb hS.node hP hS.blk har hqa hqh (by have := hS.had; rw [t4] at this; simpa using this) hhq (by have := hS.fre; rw [t5] at this; exact this) (fun k hk => .inl (hS.fq k hk).1)
  · have e1 : (X.T.alloc (some ⟨nb, 0, none⟩)).1 = { X.T with all := X.T.all.set k (g0 + 1, true, some ⟨nb, 0, none⟩), free := l, count := X.T.count + 1 } := by rw [t7]
    have har := hS.ar
    rw [e1] at har ⊢
    exact h.made hok hbig (.inr ⟨l, k, g0, y, t1, t2, t3, t4, rfl⟩) hS.fr hBw hnb hS.node hP hS.blk har hqa hqh (by have := hS.had; rw [t5] at this; simpa using this) hhq (by have := hS.fre; rw [t6] at this; exact this) (fun k hk => .inl (hS.fq k hk).1)
end
end Go.Proofs.YtelhnaphkbpakaaDoor
