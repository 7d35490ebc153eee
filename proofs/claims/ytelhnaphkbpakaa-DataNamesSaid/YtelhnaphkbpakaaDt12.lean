/- The attributes' order in Equal, at one attribute or none; EqualFunc. -/
import Derived.Test.YtelhnaphkbpakaaDt10
import Derived.Test.YtelhnaphkbpakaaDt11
namespace Go.Proofs.Ytelhnaphkbpakaa
open Go.RowKit
set_option linter.unusedVariables false
set_option maxRecDepth 100000

theorem SlA.src {w : World} {a : Option Addr} {L : List LA} (h : SlA w a L) : L.length = 0 ∨ ∃ ad, a = some ad ∧ ∀ j u, (cellsA L)[j]? = some u → w.cell? (ad.add j) = some u := by
  rcases Nat.eq_zero_or_pos L.length with h0 | h0
  · exact .inl h0
  · obtain ⟨u, hu⟩ : ∃ u, (cellsA L)[0]? = some u := ⟨_, List.getElem?_eq_getElem (by rw [cellsA_len]; omega)⟩
    obtain ⟨b, off, rfl, _, _⟩ := h.at_ 0 u hu
    refine .inr ⟨_, rfl, fun j v hv => ?_⟩
    obtain ⟨b', off', h1, _, h3⟩ := h.at_ j v hv
    cases h1
    rw [show (⟨b, off, none⟩ : Addr).add j = ⟨b, off + j, none⟩ by unfold Addr.add; split <;> simp_all]
    exact h3

set_option maxHeartbeats 1000000 in
theorem clone54_calls (w : World) {ad : Addr} {L : List LA} (ca : Nat) (hA : SlA w (some ad) L) (hl : L.length ≤ 1099511627776) :
    Calls Try.prog 54 #[.slice (some ad) L.length ca] w fun e w' => ∃ a' c', e = .returned (.slice a' L.length c') ∧ w'.ownsRow w.heap.size 72 2 (.slice a' L.length c') L.length (cellsA L) ∧ Below w.heap.size w w' := by
  obtain ⟨i72, hi72, ia1, ia2, ia3⟩ := info_parts info72
  have HA := Lib.hid (hA.below ((Below.refl _ w).alloc (Nat.le_refl _) (.cells #[] 72)))
  obtain ⟨n, hn⟩ : ∃ n, n = L.length := ⟨_, rfl⟩
  rw [← hn] at hl ⊢
  have HN := Lib.hid hn
  clear hn hA
  have heq : ∀ w, (binOp .eql 25 (.slice (some ad) n ca) (.slice none 0 0)).run Try.prog w = .ok (.bool false) w := fun w => Lib.run_eql_slice_nil w _ _ (some ad) n ca 0 0 Try.underlying25
  go_enter Try.func54, Try.ntmps54
  go_wp2_with (at_builtin; refine wpList_append_any _ rfl (.tmp 5) (.tmp 6) 25 rfl w.heap.size 72 i72 _ 2 40 Try.underlying25 hi72 ia1 ia2 ia3 rfl (by omega) _ 0 [] rfl (World.ownsRow_lit w #[] 0 (Nat.le_refl _) (by decide) rfl) (some ad) n ca (cellsA L) rfl (by rw [cellsA_len, HN.out]) (by rw [HN.out]; exact HA.out.src) (cellsA_one L) (by unfold maxLen; omega) (by omega) (by simp) ?_)
  intro a2 c2 w2 hown hgrow
  have hb : Below w.heap.size w w2 := ((FrT.refl [72] w.heap.size w).alloc (.cells #[] 72) |>.append (World.ownsRow_lit (size := 2) w #[] 0 (Nat.le_refl _) (by decide) rfl) (Nat.le_refl _) (by simp) hgrow).below (Nat.le_refl _)
  go_wp2
  go_ret
  exact ⟨a2, c2, rfl, by simpa using hown, hb⟩

set_option maxHeartbeats 1000000 in
theorem insort1_calls (w : World) (v f : Value) (n : Nat) (hn : n ≤ 1) : Calls Try.prog 104 #[v, .int .i64 0, .int .i64 (n : Int), f] w fun e w' => (∃ v, e = .returned v) ∧ w = w' := by
  have p1 : ¬ (1 : Int) < (n : Int) := by omega
  go_enter Try.func104, Try.ntmps104
  go_wp2_with fail
  go_loopw [8] (fun v wr => v = .int .i64 1 ∧ w = wr) (fun _ _ => 0)
  case atStart => exact ⟨rfl, rfl⟩
  case round =>
    obtain ⟨rfl, rfl⟩ := hrel
    go_wp2
    go_end0
    exact ⟨⟨_, rfl⟩, rfl⟩
theorem stab1_calls (w : World) (v f : Value) (n : Nat) (hn : n ≤ 1) : Calls Try.prog 90 #[v, .int .i64 (n : Int), f] w fun e w' => (∃ v, e = .returned v) ∧ w = w' := by
  have p1 : ¬ (20 : Int) ≤ (n : Int) := by omega
  have p2 : ¬ (20 : Int) < (n : Int) := by omega
  have hi := insort1_calls w v f n hn
  go_enter Try.func90, Try.ntmps90
  go_wp2_with fail
  go_loopw [7, 8] (fun u v wr => u = .int .i64 0 ∧ v = .int .i64 20 ∧ w = wr) (fun _ _ _ => 0)
  case atStart => exact ⟨rfl, rfl, rfl⟩
  case round =>
    obtain ⟨rfl, rfl, rfl⟩ := hrel
    go_wp2_with (go_at_call 104; refine hi.mono ?_; rintro e w2 ⟨⟨r, rfl⟩, rfl⟩)
    go_loopw [6] (fun v wr => v = .int .i64 20 ∧ w = wr) (fun _ _ => 0)
    case atStart => exact ⟨rfl, rfl⟩
    case round =>
      obtain ⟨rfl, rfl⟩ := hrel
      go_wp2
      go_end0
      exact ⟨⟨_, rfl⟩, rfl⟩
theorem sort1_calls (w : World) (v f : Value) (a : Option Addr) (n c : Nat) (hn : n ≤ 1) (hv : v = .slice a n c) : Calls Try.prog 55 #[v, f] w fun e w' => (∃ v, e = .returned v) ∧ w = w' := by
  subst hv
  have hi := stab1_calls w (.slice a n c) f n hn
  go_enter Try.func55, Try.ntmps55
  go_wp2_with (go_at_call 90; refine hi.mono ?_; rintro e w2 ⟨⟨r, rfl⟩, rfl⟩)
  go_end0
  exact ⟨⟨_, rfl⟩, rfl⟩
/-- The order of one attribute, or of none. -/
theorem order1_calls (w : World) {ad : Addr} {L : List LA} (ca : Nat) (hA : SlA w (some ad) L) (hl : L.length ≤ 1) :
    Calls Try.prog 53 #[.slice (some ad) L.length ca] w fun e w' => ∃ a' c', e = .returned (.slice a' L.length c') ∧ w'.ownsRow w.heap.size 72 2 (.slice a' L.length c') L.length (cellsA L) ∧ Below w.heap.size w w' := by
  have hc := clone54_calls w ca hA (by omega)
  obtain ⟨n, hn⟩ : ∃ n, n = L.length := ⟨_, rfl⟩
  rw [← hn] at hl hc ⊢
  have HC := Lib.hid hc
  clear hn hc
  go_enter Try.func53, Try.ntmps53
  go_wp2_with (first | (go_at_call 54; refine HC.out.mono ?_; rintro e w2 ⟨a2, c2, rfl, hown, hb⟩; have HO := Lib.hid (And.intro hown hb); clear hown hb) | (go_at_call 55; refine (sort1_calls _ _ _ a2 n c2 hl rfl).mono ?_; rintro e w3 ⟨⟨r, rfl⟩, rfl⟩))
  go_ret
  exact ⟨a2, c2, rfl, HO.out⟩
/-- EqualFunc, at one attribute on either side. -/
theorem equalFunc1_calls (w : World) {a b : Option Addr} {x y : LA} (ca cb : Nat) (hA : SlA w a [x]) (hB : SlA w b [y]) :
    Calls Try.prog 60 #[.slice a 1 ca, .slice b 1 cb, .func (.func 61) #[] #[]] w fun e w' => e = .returned (.bool (eqAt x y)) ∧ Below w.heap.size w w' := by
  obtain ⟨b1, o1, rfl, hl1, c1, c2⟩ := hA.get (i := 0) (x := x) rfl
  obtain ⟨b2, o2, rfl, hl2, d1, d2⟩ := hB.get (i := 0) (x := y) rfl
  simp at c1 c2 d1 d2
  have hx := hA.val x (by simp)
  have hy := hB.val y (by simp)
  have HX := Lib.hid hx
  have HY := Lib.hid hy
  clear hA hB hx hy
  have hbW : Below w.heap.size w ((w.alloc (.cells #[.string x.name, .slice x.va x.val.length x.vc] 72)).alloc (.cells #[.string y.name, .slice y.va y.val.length y.vc] 72)) := ((Below.refl _ w).alloc (Nat.le_refl _) _).alloc (by simp) _
  have he := eqAt_calls ((w.alloc (.cells #[.string x.name, .slice x.va x.val.length x.vc] 72)).alloc (.cells #[.string y.name, .slice y.va y.val.length y.vc] 72)) x y (HX.out.below hbW) (HY.out.below hbW)
  unfold LA.v at he
  obtain ⟨r, hr⟩ : ∃ r, r = eqAt x y := ⟨_, rfl⟩
  rw [← hr] at he ⊢
  have HBW := Lib.hid hbW
  have HE := Lib.hid he
  clear hbW he hr HX HY
  go_enter Try.func60, Try.ntmps60
  go_wp2_with fail
  go_loopw [17] (fun v wr => (v = .int .i64 0 ∧ w = wr) ∨ (v = .int .i64 1 ∧ r = true ∧ Below w.heap.size w wr)) (fun v _ => 1 - (intOf v).toNat)
  case atStart => exact .inl ⟨rfl, rfl⟩
  case round =>
    rcases hrel with ⟨rfl, rfl⟩ | ⟨rfl, rfl, hb⟩
    · cases r with
      | true =>
        go_wp2_with (go_at_call 61; refine HE.out.mono ?_; rintro e w2 ⟨rfl, b2⟩)
        go_roundw
        case rel => exact .inr ⟨rfl, trivial, HBW.out.trans (b2.mono (by simp; omega))⟩
        case measure => simp [intOf]
      | false =>
        go_wp2_with (go_at_call 61; refine HE.out.mono ?_; rintro e w2 ⟨rfl, b2⟩)
        go_ret
        exact ⟨rfl, HBW.out.trans (b2.mono (by simp; omega))⟩
    · go_wp2
      go_ret
      exact ⟨rfl, hb⟩

theorem sla_one {w : World} {B : Nat} {a : Option Addr} {c : Nat} {z : LA} (hr : w.ownsRow B 72 2 (.slice a 1 c) 1 (cellsA [z])) (hz : Sl16 w z.va z.val) (hn : z.name.size ≤ 9223372036854775807) : SlA w a [z] := by
  refine ⟨fun j u hu => ?_, by simp, fun t ht => ?_, fun t ht => ?_⟩
  · obtain ⟨b, h1, h2, h3⟩ := row_src hr hu
    exact ⟨b, 0, h1, h2, h3⟩
  · rw [List.mem_singleton.1 ht]; exact hz
  · rw [List.mem_singleton.1 ht]; exact hn

set_option maxHeartbeats 8000000 in
/-- Equal of two nodes of one attribute each, which have the same. -/
theorem equal1_calls (w : World) (M N : Nd) (hM : NdIn w M) (hN : NdIn w N) (hc : M.c = N.c) (x y : LA) (hx : M.L = [x]) (hy : N.L = [y]) :
    Calls Try.prog 17 #[M.v, N.v] w fun e w' => e = .returned (.bool true) ∧ Below w.heap.size w w' := by
  have hac : attrOf x = attrOf y := by
    have := congrArg NC.attrs hc
    simp only [Nd.c, hx, hy, List.map_cons, List.map_nil, List.cons.injEq, and_true] at this
    exact this
  have heq : eqAt x y = true := by
    unfold eqAt
    have h1 : x.name = y.name := congrArg Prod.fst hac
    have h2 : x.val = y.val := congrArg Prod.snd hac
    rw [h1, h2]; simp
  have hMa := hM.attrs
  have hNa := hN.attrs
  have hMd := hM.data
  have hNd := hN.data
  obtain ⟨k, nm, da, dc, data, aa, ac, L, sl, ge⟩ := M
  obtain ⟨k2, nm2, da2, dc2, data2, aa2, ac2, L2, sl2, ge2⟩ := N
  simp only [Nd.c, NC.mk.injEq] at hc hx hy hMa hNa hMd hNd
  obtain ⟨rfl, rfl, rfl, _, rfl, rfl⟩ := hc
  subst hx hy
  obtain ⟨b1, o1, rfl, _, _, _⟩ := hMa.get (i := 0) (x := x) rfl
  obtain ⟨b2, o2, rfl, _, _, _⟩ := hNa.get (i := 0) (x := y) rfl
  simp only [Nd.v, Nd.cells, List.length_cons, List.length_nil, Nat.zero_add]
  obtain ⟨m, em⟩ : ∃ m, m = data.length := ⟨_, rfl⟩
  rw [← em]
  obtain ⟨V, hV⟩ : ∃ V, V = (w.alloc (.cells #[.int .i64 k, .string nm, .slice da m dc, .slice (some ⟨b1, o1, none⟩) 1 ac, .int .u32 sl, .int .u32 ge] 30)).alloc (.cells #[.int .i64 k, .string nm, .slice da2 m dc2, .slice (some ⟨b2, o2, none⟩) 1 ac2, .int .u32 sl, .int .u32 ge] 30) := ⟨_, rfl⟩
  have hbV : Below w.heap.size w V := by rw [hV]; exact ((Below.refl _ w).alloc (Nat.le_refl _) _).alloc (by simp) _
  have v0 : V.heap[w.heap.size]? = some (.cells #[.int .i64 k, .string nm, .slice da m dc, .slice (some ⟨b1, o1, none⟩) 1 ac, .int .u32 sl, .int .u32 ge] 30 (0, 0)) := by rw [hV]; exact alloc_blk (Go.heap_alloc_new w _) _
  have v1 : V.heap[w.heap.size + 1]? = some (.cells #[.int .i64 k, .string nm, .slice da2 m dc2, .slice (some ⟨b2, o2, none⟩) 1 ac2, .int .u32 sl, .int .u32 ge] 30 (0, 0)) := by
    rw [hV]; have := Go.heap_alloc_new (w.alloc (.cells #[.int .i64 k, .string nm, .slice da m dc, .slice (some ⟨b1, o1, none⟩) 1 ac, .int .u32 sl, .int .u32 ge] 30)) (.cells #[.int .i64 k, .string nm, .slice da2 m dc2, .slice (some ⟨b2, o2, none⟩) 1 ac2, .int .u32 sl, .int .u32 ge] 30); rwa [World.size_alloc] at this
  have he := eq16_calls dc dc2 (hMd.below hbV) (hNd.below hbV)
  rw [← em, decide_eq_true rfl, hV] at he
  have HE := Lib.hid he
  have HV := Lib.hid (And.intro hV (And.intro hbV (And.intro v0 v1)))
  have HA := Lib.hid (And.intro hMa hNa)
  have HQ := Lib.hid heq
  clear he hV hbV v0 v1 hMa hNa heq hM hN hMd hNd em hac
  go_enter Try.func17, Try.ntmps17
  go_wp2_with (go_at_call 52; refine HE.out.mono ?_; rintro e w2 ⟨rfl, kk, rfl⟩)
  have HO1 : Hid (∀ w', Below V.heap.size V w' → Calls Try.prog 53 #[.slice (some ⟨b1, o1, none⟩) 1 ac] w' fun e w'' => ∃ a' c', e = .returned (.slice a' 1 c') ∧ w''.ownsRow w'.heap.size 72 2 (.slice a' 1 c') 1 (cellsA [x]) ∧ Below w'.heap.size w' w'') := Lib.hid (fun w' hb => order1_calls w' ac (HA.out.1.below (HV.out.2.1.trans (hb.mono HV.out.2.1.size))) (by simp))
  have HO2 : Hid (∀ w', Below V.heap.size V w' → Calls Try.prog 53 #[.slice (some ⟨b2, o2, none⟩) 1 ac2] w' fun e w'' => ∃ a' c', e = .returned (.slice a' 1 c') ∧ w''.ownsRow w'.heap.size 72 2 (.slice a' 1 c') 1 (cellsA [y]) ∧ Below w'.heap.size w' w'') := Lib.hid (fun w' hb => order1_calls w' ac2 (HA.out.2.below (HV.out.2.1.trans (hb.mono HV.out.2.1.size))) (by simp))
  have HSW : Hid (∀ w', Below V.heap.size V w' → w'.cell? ⟨w.heap.size, 3, none⟩ = some (.slice (some ⟨b1, o1, none⟩) 1 ac) ∧ w'.cell? ⟨w.heap.size + 1, 3, none⟩ = some (.slice (some ⟨b2, o2, none⟩) 1 ac2)) := Lib.hid (fun w' hb =>
    ⟨cell_blk ((hb.block _ (lt_of_some HV.out.2.2.1)).trans HV.out.2.2.1) 3 rfl, cell_blk ((hb.block _ (lt_of_some HV.out.2.2.2)).trans HV.out.2.2.2) 3 rfl⟩)
  have HD0 : Hid (Below V.heap.size V (((w.alloc (.cells #[.int .i64 k, .string nm, .slice da m dc, .slice (some ⟨b1, o1, none⟩) 1 ac, .int .u32 sl, .int .u32 ge] 30)).alloc (.cells #[.int .i64 k, .string nm, .slice da2 m dc2, .slice (some ⟨b2, o2, none⟩) 1 ac2, .int .u32 sl, .int .u32 ge] 30)).drewN kk).drew) := Lib.hid (by rw [← HV.out.1]; exact ((FrT.refl [] _ V).drewN kk).below (Nat.le_refl _) |>.drew)
  have HEF : Hid (∀ (w' : World) (a' b' : Option Addr) (ca cb : Nat), SlA w' a' [x] → SlA w' b' [y] → Calls Try.prog 60 #[.slice a' 1 ca, .slice b' 1 cb, .func (.func 61) #[] #[]] w' fun e w'' => e = .returned (.bool true) ∧ Below w'.heap.size w' w'') := Lib.hid (fun w' a' b' ca cb h1 h2 => by
    have h := equalFunc1_calls w' ca cb h1 h2
    rw [HQ.out] at h
    exact h)
  go_region_held3 (fun w' => w'.cell? ⟨w.heap.size, 3, none⟩ = some (.slice (some ⟨b1, o1, none⟩) 1 ac) ∧ w'.cell? ⟨w.heap.size + 1, 3, none⟩ = some (.slice (some ⟨b2, o2, none⟩) 1 ac2))
    (first | exact HSW.out _ HD0.out | exact HSW.out _ hb5 | exact HSW.out _ hb6 | exact HSW.out _ hb7)
    (first | (go_at_call 53; refine (HO1.out _ HD0.out).mono ?_; rintro e w5 ⟨a5, c5, rfl, hr5, b5⟩; have hb5 := HD0.out.trans (b5.mono HD0.out.size)) | (go_at_call 53; refine (HO2.out _ hb5).mono ?_; rintro e w6 ⟨a6, c6, rfl, hr6, b6⟩; have hb6 := hb5.trans (b6.mono hb5.size)) | (go_at_call 60; refine (HEF.out _ _ _ _ _ (sla_one (row_below hr5 b6) (HA.out.1.val x (by simp) |>.below (HV.out.2.1.trans (hb6.mono HV.out.2.1.size))) (HA.out.1.nam x (by simp))) (sla_one hr6 (HA.out.2.val y (by simp) |>.below (HV.out.2.1.trans (hb6.mono HV.out.2.1.size))) (HA.out.2.nam y (by simp)))).mono ?_; rintro e w7 ⟨rfl, b7⟩; have hb7 := hb6.trans (b7.mono hb6.size)))
  go_wp2
  go_ret
  exact ⟨rfl, HV.out.2.1.trans (hb7.mono HV.out.2.1.size)⟩
end Go.Proofs.Ytelhnaphkbpakaa
