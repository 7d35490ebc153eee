/-
  No cell of these rows narrows 'for every input' (looked for: loops, veiled, ifaces, maps, wideKeys, modest, calm, conditions, laid).
  DERIVED. THE GIVEN ROWS OF THIS SEAT. 4 by the template 'for every input the law returns true; each argument reads behind the call as it read before'; 0 by the template 'total and deterministic' (their statements: YtohmmkkbfiembaaTotals.lean).
  GIVEN WITH THE SEED: the statements are not yours to turn. If you find one false, say at which input.
  Laid BY PROGRAM, IN A SANDBOX (cutbox-rows.mjs): the forced cells as the released guide's own fill.sh prints them over the translation fa5589c29156393e… (all of the seat's roots in one cut). By AI agents, Wed Nov 11 2026. No macro, syntax, notation, axiom, sorry.
-/
import Derived.Test.YtohmmkkbfiembaaChecked
import GoSem.Claim
import GoSem.ClaimJoined
import GoSem.ClaimMapViews
import Derived.JoinedTies
import Derived.KernelRfl
namespace Go.Proofs.Ytohmmkkbfiembaa
/- THE CELL 'sum', in the pinned program and in every row, IS THE sha256 OF THE DUMP (.gsa) THAT YtohmmkkbfiembaaProg.lean LOADS. Nothing in Lean hashes anything: it is a label: what it is worth is what the hold of that sum in a sandbox is worth. -/
noncomputable def Try.pinned : Pinned := { name := "ytohmmkkbfiembaa", sum := "fa5589c29156393eca4d87aa4a901cf5ba720b9981dee92dd99b6c2bc4d721f9", checked := Try.checked }
namespace Rows
def none {H : Type} : Left H := { results := [], args := [] }

/-- 'galleylaw18.BoxesNames': WHATEVER THE INPUT: true; the input reads as it did. -/
def boxesNamesSpec : ChangeSpec := { name := "boxesNames", fn := fun _ => fun
  | [] => { results := [.lit (.bool true)], args := [] }
  | _ => none }
def boxesNamesRow : OpenClaim := { program := "ytohmmkkbfiembaa", sum := "fa5589c29156393eca4d87aa4a901cf5ba720b9981dee92dd99b6c2bc4d721f9", func := "galley/galleylaw18.BoxesNames", spec := "boxesNames", inPlace := ["math.Float64frombits", "math.Float64bits", "math.RoundToEven"], unfollowed := true, recurses := true, plainKeys := false, apart := false }
def BoxesNamesSaid : Prop := boxesNamesRow.holds Try.pinned (OpenSpec.ofChange boxesNamesSpec)

/-- ITS FALSE NEIGHBOUR: 'it returns false'. Refute it at one input. -/
def boxesNamesWrong : ChangeSpec := { name := "boxesNames", fn := fun _ => fun
  | [] => { results := [.lit (.bool false)], args := [] }
  | _ => none }
def BoxesNamesWrongFalsely : Prop := boxesNamesRow.holds Try.pinned (OpenSpec.ofChange boxesNamesWrong)

/-- 'galleylaw18.BoxesShares': WHATEVER THE INPUT: true; the input reads as it did. -/
def boxesSharesSpec : ChangeSpec := { name := "boxesShares", fn := fun _ => fun
  | [d] => { results := [.lit (.bool true)], args := [d] }
  | _ => none }
def boxesSharesRow : OpenClaim := { program := "ytohmmkkbfiembaa", sum := "fa5589c29156393eca4d87aa4a901cf5ba720b9981dee92dd99b6c2bc4d721f9", func := "galley/galleylaw18.BoxesShares", spec := "boxesShares", inPlace := ["math.Float64frombits", "math.Float64bits", "math.RoundToEven"], unfollowed := true, recurses := true, plainKeys := false, apart := false }
def BoxesSharesSaid : Prop := boxesSharesRow.holds Try.pinned (OpenSpec.ofChange boxesSharesSpec)

/-- ITS FALSE NEIGHBOUR: 'it returns false'. Refute it at one input. -/
def boxesSharesWrong : ChangeSpec := { name := "boxesShares", fn := fun _ => fun
  | [d] => { results := [.lit (.bool false)], args := [d] }
  | _ => none }
def BoxesSharesWrongFalsely : Prop := boxesSharesRow.holds Try.pinned (OpenSpec.ofChange boxesSharesWrong)

/-- 'galleylaw18.BoxesEven': WHATEVER THE INPUT: true; the input reads as it did. -/
def boxesEvenSpec : ChangeSpec := { name := "boxesEven", fn := fun _ => fun
  | [d] => { results := [.lit (.bool true)], args := [d] }
  | _ => none }
def boxesEvenRow : OpenClaim := { program := "ytohmmkkbfiembaa", sum := "fa5589c29156393eca4d87aa4a901cf5ba720b9981dee92dd99b6c2bc4d721f9", func := "galley/galleylaw18.BoxesEven", spec := "boxesEven", inPlace := ["math.Float64frombits", "math.Float64bits", "math.RoundToEven"], unfollowed := true, recurses := true, plainKeys := false, apart := false }
def BoxesEvenSaid : Prop := boxesEvenRow.holds Try.pinned (OpenSpec.ofChange boxesEvenSpec)

/-- ITS FALSE NEIGHBOUR: 'it returns false'. Refute it at one input. -/
def boxesEvenWrong : ChangeSpec := { name := "boxesEven", fn := fun _ => fun
  | [d] => { results := [.lit (.bool false)], args := [d] }
  | _ => none }
def BoxesEvenWrongFalsely : Prop := boxesEvenRow.holds Try.pinned (OpenSpec.ofChange boxesEvenWrong)

/-- 'galleylaw18.BoxesPlaces': WHATEVER THE INPUT: true; the input reads as it did. -/
def boxesPlacesSpec : ChangeSpec := { name := "boxesPlaces", fn := fun _ => fun
  | [d1, d2, d3, d4] => { results := [.lit (.bool true)], args := [d1, d2, d3, d4] }
  | _ => none }
def boxesPlacesRow : OpenClaim := { program := "ytohmmkkbfiembaa", sum := "fa5589c29156393eca4d87aa4a901cf5ba720b9981dee92dd99b6c2bc4d721f9", func := "galley/galleylaw18.BoxesPlaces", spec := "boxesPlaces", inPlace := ["math.Float64frombits", "math.Float64bits", "math.RoundToEven"], unfollowed := true, recurses := true, plainKeys := false, apart := false }
def BoxesPlacesSaid : Prop := boxesPlacesRow.holds Try.pinned (OpenSpec.ofChange boxesPlacesSpec)

/-- ITS FALSE NEIGHBOUR: 'it returns false'. Refute it at one input. -/
def boxesPlacesWrong : ChangeSpec := { name := "boxesPlaces", fn := fun _ => fun
  | [d1, d2, d3, d4] => { results := [.lit (.bool false)], args := [d1, d2, d3, d4] }
  | _ => none }
def BoxesPlacesWrongFalsely : Prop := boxesPlacesRow.holds Try.pinned (OpenSpec.ofChange boxesPlacesWrong)

/- THE SECOND FORM. 'bulk': how many values and letters a reading holds, each counted each time it is reached (what is shared counts as often as it is met; a slice's spare places count too). A statement '..UptoSaid' is the law's where the arguments, and the package variables that the reading takes, are together of bulk at most 1048576: NARROWER than '..Said'. Prove '..Said' where nothing that the law and all that it calls make is longer than what came in: it says more and counts as full. Else prove '..UptoSaid'. A law counts once. -/
mutual
def uptoBulk {H : Type} : DataW H → Nat
  | .lit (.string bytes) => bytes.length + 1
  | .lit _ => 1
  | .nil => 1
  | .ptr d => uptoBulk d + 1
  | .slice elems spare => uptoBulkAll elems + uptoBulkAll spare + 1
  | .agg parts => uptoBulkAll parts + 1
  | .iface _ d => uptoBulk d + 1
  | .map entries => uptoBulkEntries entries + 1
  | .held _ => 1
def uptoBulkAll {H : Type} : List (DataW H) → Nat
  | [] => 0
  | d :: r => uptoBulk d + uptoBulkAll r
def uptoBulkEntries {H : Type} : List (Lit × DataW H) → Nat
  | [] => 0
  | x :: r => uptoBulkEntry x + uptoBulkEntries r
def uptoBulkEntry {H : Type} : Lit × DataW H → Nat
  | (.string bytes, d) => bytes.length + uptoBulk d + 1
  | (_, d) => uptoBulk d + 1
 end
def uptoSmall : (H : Type) → List (DataW H) → Bool := fun _ ds => decide (uptoBulkAll ds ≤ 1048576)
def OpenSpec.upto (s : _root_.Go.ChangeSpec) : _root_.Go.OpenSpec := { _root_.Go.OpenSpec.ofChange s with cond := some uptoSmall }

/-- 'galleylaw18.BoxesNames', WHERE WHAT IT READS IS OF BULK AT MOST 1048576: true; the input reads as it did. -/
def boxesNamesUptoRow : OpenClaim := { program := "ytohmmkkbfiembaa", sum := "fa5589c29156393eca4d87aa4a901cf5ba720b9981dee92dd99b6c2bc4d721f9", func := "galley/galleylaw18.BoxesNames", spec := "boxesNames", inPlace := ["math.Float64frombits", "math.Float64bits", "math.RoundToEven"], unfollowed := true, recurses := true, plainKeys := false, apart := false, narrowed := true }
def BoxesNamesUptoSaid : Prop := boxesNamesUptoRow.holds Try.pinned (OpenSpec.upto boxesNamesSpec)

/-- 'galleylaw18.BoxesShares', WHERE WHAT IT READS IS OF BULK AT MOST 1048576: true; the input reads as it did. -/
def boxesSharesUptoRow : OpenClaim := { program := "ytohmmkkbfiembaa", sum := "fa5589c29156393eca4d87aa4a901cf5ba720b9981dee92dd99b6c2bc4d721f9", func := "galley/galleylaw18.BoxesShares", spec := "boxesShares", inPlace := ["math.Float64frombits", "math.Float64bits", "math.RoundToEven"], unfollowed := true, recurses := true, plainKeys := false, apart := false, narrowed := true }
def BoxesSharesUptoSaid : Prop := boxesSharesUptoRow.holds Try.pinned (OpenSpec.upto boxesSharesSpec)

/-- 'galleylaw18.BoxesEven', WHERE WHAT IT READS IS OF BULK AT MOST 1048576: true; the input reads as it did. -/
def boxesEvenUptoRow : OpenClaim := { program := "ytohmmkkbfiembaa", sum := "fa5589c29156393eca4d87aa4a901cf5ba720b9981dee92dd99b6c2bc4d721f9", func := "galley/galleylaw18.BoxesEven", spec := "boxesEven", inPlace := ["math.Float64frombits", "math.Float64bits", "math.RoundToEven"], unfollowed := true, recurses := true, plainKeys := false, apart := false, narrowed := true }
def BoxesEvenUptoSaid : Prop := boxesEvenUptoRow.holds Try.pinned (OpenSpec.upto boxesEvenSpec)

/-- 'galleylaw18.BoxesPlaces', WHERE WHAT IT READS IS OF BULK AT MOST 1048576: true; the input reads as it did. -/
def boxesPlacesUptoRow : OpenClaim := { program := "ytohmmkkbfiembaa", sum := "fa5589c29156393eca4d87aa4a901cf5ba720b9981dee92dd99b6c2bc4d721f9", func := "galley/galleylaw18.BoxesPlaces", spec := "boxesPlaces", inPlace := ["math.Float64frombits", "math.Float64bits", "math.RoundToEven"], unfollowed := true, recurses := true, plainKeys := false, apart := false, narrowed := true }
def BoxesPlacesUptoSaid : Prop := boxesPlacesUptoRow.holds Try.pinned (OpenSpec.upto boxesPlacesSpec)

end Rows
end Go.Proofs.Ytohmmkkbfiembaa
