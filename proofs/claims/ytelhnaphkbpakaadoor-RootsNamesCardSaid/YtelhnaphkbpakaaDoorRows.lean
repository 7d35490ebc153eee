/-
  NARROWER THAN 'FOR EVERY INPUT', by the rows' own cells (each row's printed sentence says how): TrailPairs: laid · TrailNil: laid · RootsNames: laid · TrailOrder: laid · TrailWalks: laid.
  DERIVED. THE GIVEN ROWS OF THIS SEAT. 5 by the template 'for every input the law returns true; each argument reads behind the call as it read before'; 0 by the template 'total and deterministic' (their statements: YtelhnaphkbpakaaDoorTotals.lean).
  GIVEN WITH THE SEED: the statements are not yours to turn. If you find one false, say at which input.
  Laid BY PROGRAM, IN A SANDBOX (cutbox-rows.mjs): the forced cells as the released guide's own fill.sh prints them over the translation d58f640d9b60b88d… (all of the seat's roots in one cut). By AI agents, Wed Nov 11 2026. No macro, syntax, notation, axiom, sorry.
-/
import Derived.Test.YtelhnaphkbpakaaDoorChecked
import GoSem.Claim
import GoSem.ClaimJoined
import GoSem.ClaimMapViews
import Derived.JoinedTies
import Derived.KernelRfl
namespace Go.Proofs.YtelhnaphkbpakaaDoor
/- THE CELL 'sum', in the pinned program and in every row, IS THE sha256 OF THE DUMP (.gsa) THAT YtelhnaphkbpakaaDoorProg.lean LOADS. Nothing in Lean hashes anything: it is a label: what it is worth is what the hold of that sum in a sandbox is worth. -/
noncomputable def Tryd.pinned : Pinned := { name := "ytelhnaphkbpakaadoor", sum := "d58f640d9b60b88d340a07025df206c3fe85932369dabebddeb0b4820b878a53", checked := Tryd.checked }
namespace Rows
def none {H : Type} : Left H := { results := [], args := [] }

/- WHAT THE LISTED PACKAGE-LEVEL VARIABLES READ AS WHEN THE CALL BEGINS. Each datum BY PROGRAM (the guide's laid-datum.mjs) off the statement by which the dump's own 'gosem.cut.vars' lays the variable. In a bare row this is a premise. The card (YtelhnaphkbpakaaDoorCards.lean) ties it to the program's text. -/
def laid_galley_trail_none {H : Type} : DataW H := .agg [.lit (.int .u32 0), .lit (.int .u32 0)]

/-- 'galleylaw08.TrailPairs': WHATEVER THE INPUT: true; the input reads as it did. -/
def trailPairsSpec : ChangeSpec := { name := "trailPairs", fn := fun _ => fun
  | [d1, d2] => { results := [.lit (.bool true)], args := [d1, d2] }
  | _ => none }
def trailPairsRow : OpenClaim := { program := "ytelhnaphkbpakaadoor", sum := "d58f640d9b60b88d340a07025df206c3fe85932369dabebddeb0b4820b878a53", func := "galley/galleylaw08.TrailPairs", spec := "trailPairs", inPlace := ["internal/bytealg.abigen_runtime_cmpstring"], unfollowed := true, recurses := true, named := ["galley/trail.none"], plainKeys := false, apart := false, laid := [("galley/trail.none", laid_galley_trail_none)] }
def TrailPairsSaid : Prop := trailPairsRow.holds Tryd.pinned (OpenSpec.ofChange trailPairsSpec)

/-- ITS FALSE NEIGHBOUR: 'it returns false'. Refute it at one input. -/
def trailPairsWrong : ChangeSpec := { name := "trailPairs", fn := fun _ => fun
  | [d1, d2] => { results := [.lit (.bool false)], args := [d1, d2] }
  | _ => none }
def TrailPairsWrongFalsely : Prop := trailPairsRow.holds Tryd.pinned (OpenSpec.ofChange trailPairsWrong)

/-- 'galleylaw08.TrailNil': WHATEVER THE INPUT: true; the input reads as it did. -/
def trailNilSpec : ChangeSpec := { name := "trailNil", fn := fun _ => fun
  | [d1, d2] => { results := [.lit (.bool true)], args := [d1, d2] }
  | _ => none }
def trailNilRow : OpenClaim := { program := "ytelhnaphkbpakaadoor", sum := "d58f640d9b60b88d340a07025df206c3fe85932369dabebddeb0b4820b878a53", func := "galley/galleylaw08.TrailNil", spec := "trailNil", inPlace := ["internal/bytealg.abigen_runtime_cmpstring"], unfollowed := true, recurses := true, named := ["galley/trail.none"], plainKeys := false, apart := false, laid := [("galley/trail.none", laid_galley_trail_none)] }
def TrailNilSaid : Prop := trailNilRow.holds Tryd.pinned (OpenSpec.ofChange trailNilSpec)

/-- ITS FALSE NEIGHBOUR: 'it returns false'. Refute it at one input. -/
def trailNilWrong : ChangeSpec := { name := "trailNil", fn := fun _ => fun
  | [d1, d2] => { results := [.lit (.bool false)], args := [d1, d2] }
  | _ => none }
def TrailNilWrongFalsely : Prop := trailNilRow.holds Tryd.pinned (OpenSpec.ofChange trailNilWrong)

/-- 'galleylaw10.RootsNames': WHATEVER THE INPUT: true; the input reads as it did. -/
def rootsNamesSpec : ChangeSpec := { name := "rootsNames", fn := fun _ => fun
  | [] => { results := [.lit (.bool true)], args := [] }
  | _ => none }
def rootsNamesRow : OpenClaim := { program := "ytelhnaphkbpakaadoor", sum := "d58f640d9b60b88d340a07025df206c3fe85932369dabebddeb0b4820b878a53", func := "galley/galleylaw10.RootsNames", spec := "rootsNames", unfollowed := true, recurses := true, named := ["galley/trail.none"], plainKeys := false, apart := false, laid := [("galley/trail.none", laid_galley_trail_none)] }
def RootsNamesSaid : Prop := rootsNamesRow.holds Tryd.pinned (OpenSpec.ofChange rootsNamesSpec)

/-- ITS FALSE NEIGHBOUR: 'it returns false'. Refute it at one input. -/
def rootsNamesWrong : ChangeSpec := { name := "rootsNames", fn := fun _ => fun
  | [] => { results := [.lit (.bool false)], args := [] }
  | _ => none }
def RootsNamesWrongFalsely : Prop := rootsNamesRow.holds Tryd.pinned (OpenSpec.ofChange rootsNamesWrong)

/-- 'galleylaw08.TrailOrder': WHATEVER THE INPUT: true; the input reads as it did. -/
def trailOrderSpec : ChangeSpec := { name := "trailOrder", fn := fun _ => fun
  | [d1, d2] => { results := [.lit (.bool true)], args := [d1, d2] }
  | _ => none }
def trailOrderRow : OpenClaim := { program := "ytelhnaphkbpakaadoor", sum := "d58f640d9b60b88d340a07025df206c3fe85932369dabebddeb0b4820b878a53", func := "galley/galleylaw08.TrailOrder", spec := "trailOrder", unfollowed := true, recurses := true, named := ["galley/trail.none"], plainKeys := false, apart := false, laid := [("galley/trail.none", laid_galley_trail_none)] }
def TrailOrderSaid : Prop := trailOrderRow.holds Tryd.pinned (OpenSpec.ofChange trailOrderSpec)

/-- ITS FALSE NEIGHBOUR: 'it returns false'. Refute it at one input. -/
def trailOrderWrong : ChangeSpec := { name := "trailOrder", fn := fun _ => fun
  | [d1, d2] => { results := [.lit (.bool false)], args := [d1, d2] }
  | _ => none }
def TrailOrderWrongFalsely : Prop := trailOrderRow.holds Tryd.pinned (OpenSpec.ofChange trailOrderWrong)

/-- 'galleylaw08.TrailWalks': WHATEVER THE INPUT: true; the input reads as it did. -/
def trailWalksSpec : ChangeSpec := { name := "trailWalks", fn := fun _ => fun
  | [d1, d2] => { results := [.lit (.bool true)], args := [d1, d2] }
  | _ => none }
def trailWalksRow : OpenClaim := { program := "ytelhnaphkbpakaadoor", sum := "d58f640d9b60b88d340a07025df206c3fe85932369dabebddeb0b4820b878a53", func := "galley/galleylaw08.TrailWalks", spec := "trailWalks", unfollowed := true, recurses := true, named := ["galley/trail.none"], plainKeys := false, apart := false, laid := [("galley/trail.none", laid_galley_trail_none)] }
def TrailWalksSaid : Prop := trailWalksRow.holds Tryd.pinned (OpenSpec.ofChange trailWalksSpec)

/-- ITS FALSE NEIGHBOUR: 'it returns false'. Refute it at one input. -/
def trailWalksWrong : ChangeSpec := { name := "trailWalks", fn := fun _ => fun
  | [d1, d2] => { results := [.lit (.bool false)], args := [d1, d2] }
  | _ => none }
def TrailWalksWrongFalsely : Prop := trailWalksRow.holds Tryd.pinned (OpenSpec.ofChange trailWalksWrong)

/- THE SECOND FORM. 'bulk': how many values and letters a reading holds, each counted each time it is reached (what is shared counts as often as it is met; a slice's spare places count too). A statement '..UptoSaid' is the law's where the arguments, and the package variables that the reading takes, are together of bulk at most 1048576: NARROWER than '..Said'. Prove '..Said' where nothing that the law and all that it calls make is longer than what came in: it says more and counts as full. Else prove '..UptoSaid'. A law counts once. -/
mutual
def uptoBulk {H : Type} : DataW H → Nat
  | .lit (.string bytes) => bytes.length + 1
  | .lit _ => 1
  | .nil => 1
  | .ptr d => uptoBulk d + 1
  | .slice elems spare => uptoBulkAll elems + uptoBulkAll spare + 1
  | .agg parts => uptoBulkAll parts + 1
  | .iface _ d => uptoBulk d + 1
  | .map entries => uptoBulkEntries entries + 1
  | .held _ => 1
def uptoBulkAll {H : Type} : List (DataW H) → Nat
  | [] => 0
  | d :: r => uptoBulk d + uptoBulkAll r
def uptoBulkEntries {H : Type} : List (Lit × DataW H) → Nat
  | [] => 0
  | x :: r => uptoBulkEntry x + uptoBulkEntries r
def uptoBulkEntry {H : Type} : Lit × DataW H → Nat
  | (.string bytes, d) => bytes.length + uptoBulk d + 1
  | (_, d) => uptoBulk d + 1
 end
def uptoSmall : (H : Type) → List (DataW H) → Bool := fun _ ds => decide (uptoBulkAll ds ≤ 1048576)
def OpenSpec.upto (s : _root_.Go.ChangeSpec) : _root_.Go.OpenSpec := { _root_.Go.OpenSpec.ofChange s with cond := some uptoSmall }

/-- 'galleylaw08.TrailPairs', WHERE WHAT IT READS IS OF BULK AT MOST 1048576: true; the input reads as it did. -/
def trailPairsUptoRow : OpenClaim := { program := "ytelhnaphkbpakaadoor", sum := "d58f640d9b60b88d340a07025df206c3fe85932369dabebddeb0b4820b878a53", func := "galley/galleylaw08.TrailPairs", spec := "trailPairs", inPlace := ["internal/bytealg.abigen_runtime_cmpstring"], unfollowed := true, recurses := true, named := ["galley/trail.none"], plainKeys := false, apart := false, laid := [("galley/trail.none", laid_galley_trail_none)], narrowed := true }
def TrailPairsUptoSaid : Prop := trailPairsUptoRow.holds Tryd.pinned (OpenSpec.upto trailPairsSpec)

/-- 'galleylaw08.TrailNil', WHERE WHAT IT READS IS OF BULK AT MOST 1048576: true; the input reads as it did. -/
def trailNilUptoRow : OpenClaim := { program := "ytelhnaphkbpakaadoor", sum := "d58f640d9b60b88d340a07025df206c3fe85932369dabebddeb0b4820b878a53", func := "galley/galleylaw08.TrailNil", spec := "trailNil", inPlace := ["internal/bytealg.abigen_runtime_cmpstring"], unfollowed := true, recurses := true, named := ["galley/trail.none"], plainKeys := false, apart := false, laid := [("galley/trail.none", laid_galley_trail_none)], narrowed := true }
def TrailNilUptoSaid : Prop := trailNilUptoRow.holds Tryd.pinned (OpenSpec.upto trailNilSpec)

/-- 'galleylaw10.RootsNames', WHERE WHAT IT READS IS OF BULK AT MOST 1048576: true; the input reads as it did. -/
def rootsNamesUptoRow : OpenClaim := { program := "ytelhnaphkbpakaadoor", sum := "d58f640d9b60b88d340a07025df206c3fe85932369dabebddeb0b4820b878a53", func := "galley/galleylaw10.RootsNames", spec := "rootsNames", unfollowed := true, recurses := true, named := ["galley/trail.none"], plainKeys := false, apart := false, laid := [("galley/trail.none", laid_galley_trail_none)], narrowed := true }
def RootsNamesUptoSaid : Prop := rootsNamesUptoRow.holds Tryd.pinned (OpenSpec.upto rootsNamesSpec)

/-- 'galleylaw08.TrailOrder', WHERE WHAT IT READS IS OF BULK AT MOST 1048576: true; the input reads as it did. -/
def trailOrderUptoRow : OpenClaim := { program := "ytelhnaphkbpakaadoor", sum := "d58f640d9b60b88d340a07025df206c3fe85932369dabebddeb0b4820b878a53", func := "galley/galleylaw08.TrailOrder", spec := "trailOrder", unfollowed := true, recurses := true, named := ["galley/trail.none"], plainKeys := false, apart := false, laid := [("galley/trail.none", laid_galley_trail_none)], narrowed := true }
def TrailOrderUptoSaid : Prop := trailOrderUptoRow.holds Tryd.pinned (OpenSpec.upto trailOrderSpec)

/-- 'galleylaw08.TrailWalks', WHERE WHAT IT READS IS OF BULK AT MOST 1048576: true; the input reads as it did. -/
def trailWalksUptoRow : OpenClaim := { program := "ytelhnaphkbpakaadoor", sum := "d58f640d9b60b88d340a07025df206c3fe85932369dabebddeb0b4820b878a53", func := "galley/galleylaw08.TrailWalks", spec := "trailWalks", unfollowed := true, recurses := true, named := ["galley/trail.none"], plainKeys := false, apart := false, laid := [("galley/trail.none", laid_galley_trail_none)], narrowed := true }
def TrailWalksUptoSaid : Prop := trailWalksUptoRow.holds Tryd.pinned (OpenSpec.upto trailWalksSpec)

end Rows
end Go.Proofs.YtelhnaphkbpakaaDoor
