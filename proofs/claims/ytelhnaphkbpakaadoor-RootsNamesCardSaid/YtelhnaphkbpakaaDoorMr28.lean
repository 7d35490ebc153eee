/- RootsNames: the law's function returns true: of two roots the one held lives, the other is dead and is collected; of no tree there is no table. The variable trail.none reads as the program's text lays it: that is the card's tie, which is given. -/
import Derived.Test.YtelhnaphkbpakaaDoorRows
import Derived.Test.YtelhnaphkbpakaaDoorCards
import Derived.Test.YtelhnaphkbpakaaDoorTie
import Derived.LaidMore
import Derived.OpenShut
import Derived.ShutString
import Derived.ChangeOld
import Derived.Stop.Joined
import Derived.SevenTiedAt
import Derived.Test.YtelhnaphkbpakaaDoorMr27
namespace Go.Proofs.YtelhnaphkbpakaaDoor.rootsNames
open Go.ChangeShapes Go.WideShapes Go.ChangeAt Go.WideMaps Go.WideElems Go.RowKit
set_option linter.unusedVariables false
set_option maxRecDepth 100000
theorem own : ownKnob Tryd.prog.godebug = none := by kernel_rfl
theorem laidOut : laidOutB Tryd.prog = true := by kernel_rfl
theorem gNone : Tryd.prog.globalNamed "galley/trail.none" = some 0 := by kernel_rfl
theorem tNone : (Tryd.prog.globals[0]?).map (·.type) = some 31 := by kernel_rfl
theorem cellsH : Tryd.prog.cellsOf 31 = 2 := by kernel_rfl
theorem cellsU : Tryd.prog.cellsOf 29 = 1 := by kernel_rfl
theorem door_met (os : Os) (args : Array Value) : laidMetH Tryd.prog Rows.rootsNamesRow.laid ((World.doorLaid Tryd.prog 14 os).forCall (fun _ _ => 0) ⟨#[], args, []⟩).memory :=
  laidMetH_of_parts3 (fuel := 8) (laidMet_of_run' 8 (by kernel_rfl) (by kernel_rfl)) (by kernel_rfl) (by kernel_rfl)
section
variable {H : Type} {enc : TypeId × Value → H} {w : World} {base : Nat} {spare : Nat → Bool} {held : Bool}
theorem u32_nat {n : Int} (h : (Lit.int .u32 n).wf = true) : ∃ m : Nat, n = (m : Int) := by
  have h1 : IntKind.u32.min ≤ n ∧ n ≤ IntKind.u32.max := by simpa [Lit.wf] using h
  have h2 : IntKind.u32.min = 0 := by kernel_rfl
  exact ⟨n.toNat, by omega⟩
theorem open_handle {fuel : Nat} {cs : List Value} {x : DataW H × List MemPlace} (h : DataW.trod enc Tryd.prog w base spare held fuel 31 cs = some x) :
    ∃ s g : Nat, cs = [.int .u32 (s : Int), .int .u32 (g : Int)] ∧ x.1 = .agg [.lit (.int .u32 (s : Int)), .lit (.int .u32 (g : Int))] := by
  obtain ⟨xs, n, _, hx, hlen, hxl, hf⟩ := DataW.trod_struct Tryd.underlying31 h
  rw [cellsH] at hlen
  match cs, hlen with
  | [c0, c1], _ =>
    have g0 : DataW.trod enc Tryd.prog w base spare held n 29 (([c0, c1].drop 0).take (Tryd.prog.cellsOf 29)) = xs[0]? := hf 0 _ rfl
    have g1 : DataW.trod enc Tryd.prog w base spare held n 29 (([c0, c1].drop 1).take (Tryd.prog.cellsOf 29)) = xs[1]? := hf 1 _ rfl
    simp only [cellsU, List.drop_zero, List.drop_succ_cons, List.take_succ_cons, List.take_zero] at g0 g1
    have hl2 : xs.length = 2 := by rw [hxl]; rfl
    match xs, hl2 with
    | [x0, x1], _ =>
      obtain ⟨a, h0, e0, w0⟩ := DataW.trod_int Tryd.underlying29 g0
      obtain ⟨b, h1, e1, w1⟩ := DataW.trod_int Tryd.underlying29 g1
      simp at h0 h1
      obtain ⟨s, rfl⟩ := u32_nat w0
      obtain ⟨g, rfl⟩ := u32_nat w1
      subst h0 h1 e0 e1
      refine ⟨s, g, rfl, ?_⟩
      rw [hx]
      rfl
end
theorem agg_of {v : Value} {l : List Value} (h : v.cells.toList = l) (hl : 1 < l.length) : ∃ c, v = .agg c ∧ c.toList = l := by
  cases v with
  | agg c => exact ⟨c, rfl, h⟩
  | _ => exfalso; subst h; simp [Value.cells] at hl
theorem of_laid {W : World} (h : laidMetH Tryd.prog Rows.rootsNamesRow.laid W) : NoneAt W := by
  rw [MakeChecks.laidMetH_plain _ _ _ (by kernel_rfl)] at h
  obtain ⟨ps, ⟨g0, t0, cs0, f0, p0, q0, hg0, ht0, hv0, hd0, _⟩, _⟩ := h
  obtain rfl := Option.some.inj (gNone.symm.trans hg0)
  obtain rfl := Option.some.inj (tNone.symm.trans ht0)
  obtain ⟨s, g, hcs, hx⟩ := open_handle hd0
  have hx' : Rows.laid_galley_trail_none = DataW.agg [.lit (.int .u32 (s : Int)), .lit (.int .u32 (g : Int))] := hx
  unfold Rows.laid_galley_trail_none at hx'
  simp only [DataW.agg.injEq, List.cons.injEq, DataW.lit.injEq, Lit.int.injEq, and_true, true_and] at hx'
  have h0 := World.var?_cell hg0 hv0 0
  have h1 := World.var?_cell hg0 hv0 1
  rw [← Array.getElem?_toList, hcs] at h0 h1
  rw [← hx'.1] at h0
  rw [← hx'.2] at h1
  exact ⟨h0, h1⟩
theorem lifted (os : Os) (started : os.Started) (H : Type) (enc : TypeId × Value → H) :
    ReturnsInHanded {} Tryd.checked os 5 .any (fun w args => (Rows.rootsNamesSpec.pre enc Tryd.prog Tryd.f5 [] false w args ∧ laidMetH Tryd.prog Rows.rootsNamesRow.laid w) ∧ sizedMet enc Tryd.prog Tryd.f5 (OpenSpec.ofChange Rows.rootsNamesSpec) false w args)
      (Rows.rootsNamesSpec.post enc Tryd.prog Tryd.f5 false true false false) := by
  refine returnsInHanded_of_change_and (C := Tryd.checked) (X := fun w _ => laidMetH Tryd.prog Rows.rootsNamesRow.laid w) (fun _ _ _ hh h => h.of_heap hh) own started (by kernel_rfl) Tryd.func5
    (ChangeSpec.witness_shaped (enc := enc) (C := Tryd.checked) (os := os) (X := fun w _ => laidMetH Tryd.prog Rows.rootsNamesRow.laid w) false (World.doorLaid Tryd.prog 14 os) #[] 8 rfl (World.shaped_of_RefB (by kernel_rfl) (by kernel_rfl)) (by kernel_rfl) (by kernel_rfl) (by kernel_rfl) (door_met os _)) ?_
  intro W base args ds gs before hval0 hW _ _ hL _
  have hval : ∀ (j : Nat) t v, Tryd.f5.params[j]? = some t → args[j]? = some v → Value.okWide Tryd.prog W .any base t v := hval0
  have hW' := hW
  obtain ⟨p, q, hA0, hV, rfl, hfz, hnd⟩ := hW
  have hA : DataW.TrodAll enc Tryd.prog W 0 (fun _ => true) true Tryd.f5.params.toList args.toList ds p := hA0
  rw [Tryd.params5] at hA hval
  obtain ⟨hargs, rfl, rfl⟩ := trodAll_nil hA
  obtain rfl : args = #[] := by cases args; simp_all
  obtain ⟨rfl, rfl⟩ := trodVars_none hV
  have hz := of_laid hL
  clear hA0 hval0
  refine (rootsNames_true W hz).mono fun e W' ⟨he, bel⟩ => ?_
  subst he
  exact ⟨_, rfl, _, _, _, [], _, [], hW', trodAll_mk1 (shut_bool Tryd.underlying4 _), trodAll_mk0, rfl, bel.frame _, fun h => by cases h⟩
theorem over : Rows.RootsNamesSaid :=
  OpenClaim.holds_of_wide 5 Tryd.f5 rfl rfl rfl rfl rfl rfl rfl ⟨rfl, rfl, rfl, rfl, rfl⟩ rfl rfl rfl rfl rfl (by kernel_rfl) Tryd.func5 (by kernel_rfl)
    (of_decide_eq_true (by kernel_rfl)) (by unfold Func.isWrapper; first | (rw [if_pos (by decide +kernel)]; kernel_rfl) | (rw [if_neg (by decide +kernel)]; exact ⟨rfl, rfl⟩))
    (fun os started H enc _ => lifted os started H enc)
theorem proved : Rows.RootsNamesCardSaid :=
  Claim7.holds_tied_plain_at .later [] [.data] true (true, "a8a45651da05e1d99d5a179aea8d245fb1c4f516d0b9d1efe15a6e30c0409ab9") false
    over (fun _ h => by cases h) (by kernel_rfl) (fun _ h => by cases h) rootsNames_row_tie rfl ⟨rfl, rfl⟩ (by kernel_rfl) rfl
    (fun f fn hf hfn => by
      obtain rfl : f = 5 := Option.some.inj ((show Tryd.prog.funcNamed "galley/galleylaw10.RootsNames" = some 5 by kernel_rfl).symm.trans hf) |>.symm
      obtain rfl : fn = Tryd.f5 := (Option.some.inj (Tryd.func5.symm.trans hfn)).symm
      exact ⟨by kernel_rfl, fun j t ht => by
        rw [Tryd.params5] at ht
        simp at ht⟩)
    (by kernel_rfl)
#print axioms proved
end Go.Proofs.YtelhnaphkbpakaaDoor.rootsNames
