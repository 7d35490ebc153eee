/-
  No cell of these rows narrows 'for every input' (looked for: loops, veiled, ifaces, maps, wideKeys, modest, calm, conditions, laid).
  DERIVED. THE GIVEN ROWS OF THIS SEAT. 7 by the template 'for every input the law returns true; each argument reads behind the call as it read before'; 0 by the template 'total and deterministic' (their statements: YtelhnaphkbpakaaTotals.lean).
  GIVEN WITH THE SEED: the statements are not yours to turn. If you find one false, say at which input.
  Laid BY PROGRAM, IN A SANDBOX (cutbox-rows.mjs): the forced cells as the released guide's own fill.sh prints them over the translation c489795100b4b84f… (all of the seat's roots in one cut). By AI agents, Wed Nov 11 2026. No macro, syntax, notation, axiom, sorry.
-/
import Derived.Test.YtelhnaphkbpakaaChecked
import GoSem.Claim
import GoSem.ClaimJoined
import GoSem.ClaimMapViews
import Derived.JoinedTies
import Derived.KernelRfl
namespace Go.Proofs.Ytelhnaphkbpakaa
/- THE CELL 'sum', in the pinned program and in every row, IS THE sha256 OF THE DUMP (.gsa) THAT YtelhnaphkbpakaaProg.lean LOADS. Nothing in Lean hashes anything: it is a label: what it is worth is what the hold of that sum in a sandbox is worth. -/
noncomputable def Try.pinned : Pinned := { name := "ytelhnaphkbpakaa", sum := "c489795100b4b84f951599932ddc130056752a94c6f134d5589e31ec76f94605", checked := Try.checked }
namespace Rows
def none {H : Type} : Left H := { results := [], args := [] }

/-- 'galleylaw07.LinksNames': WHATEVER THE INPUT: true; the input reads as it did. -/
def linksNamesSpec : ChangeSpec := { name := "linksNames", fn := fun _ => fun
  | [] => { results := [.lit (.bool true)], args := [] }
  | _ => none }
def linksNamesRow : OpenClaim := { program := "ytelhnaphkbpakaa", sum := "c489795100b4b84f951599932ddc130056752a94c6f134d5589e31ec76f94605", func := "galley/galleylaw07.LinksNames", spec := "linksNames", unfollowed := true, recurses := true, apart := false }
def LinksNamesSaid : Prop := linksNamesRow.holds Try.pinned (OpenSpec.ofChange linksNamesSpec)

/-- ITS FALSE NEIGHBOUR: 'it returns false'. Refute it at one input. -/
def linksNamesWrong : ChangeSpec := { name := "linksNames", fn := fun _ => fun
  | [] => { results := [.lit (.bool false)], args := [] }
  | _ => none }
def LinksNamesWrongFalsely : Prop := linksNamesRow.holds Try.pinned (OpenSpec.ofChange linksNamesWrong)

/-- 'galleylaw06.DataNames': WHATEVER THE INPUT: true; the input reads as it did. -/
def dataNamesSpec : ChangeSpec := { name := "dataNames", fn := fun _ => fun
  | [] => { results := [.lit (.bool true)], args := [] }
  | _ => none }
def dataNamesRow : OpenClaim := { program := "ytelhnaphkbpakaa", sum := "c489795100b4b84f951599932ddc130056752a94c6f134d5589e31ec76f94605", func := "galley/galleylaw06.DataNames", spec := "dataNames", inPlace := ["internal/bytealg.abigen_runtime_cmpstring"], unfollowed := true, recurses := true, apart := false }
def DataNamesSaid : Prop := dataNamesRow.holds Try.pinned (OpenSpec.ofChange dataNamesSpec)

/-- ITS FALSE NEIGHBOUR: 'it returns false'. Refute it at one input. -/
def dataNamesWrong : ChangeSpec := { name := "dataNames", fn := fun _ => fun
  | [] => { results := [.lit (.bool false)], args := [] }
  | _ => none }
def DataNamesWrongFalsely : Prop := dataNamesRow.holds Try.pinned (OpenSpec.ofChange dataNamesWrong)

/-- 'galleylaw06.DataChecks': WHATEVER THE INPUT: true; the input reads as it did. -/
def dataChecksSpec : ChangeSpec := { name := "dataChecks", fn := fun _ => fun
  | [d1, d2, d3] => { results := [.lit (.bool true)], args := [d1, d2, d3] }
  | _ => none }
def dataChecksRow : OpenClaim := { program := "ytelhnaphkbpakaa", sum := "c489795100b4b84f951599932ddc130056752a94c6f134d5589e31ec76f94605", func := "galley/galleylaw06.DataChecks", spec := "dataChecks", inPlace := ["internal/bytealg.abigen_runtime_cmpstring"], unfollowed := true, recurses := true, apart := false }
def DataChecksSaid : Prop := dataChecksRow.holds Try.pinned (OpenSpec.ofChange dataChecksSpec)

/-- ITS FALSE NEIGHBOUR: 'it returns false'. Refute it at one input. -/
def dataChecksWrong : ChangeSpec := { name := "dataChecks", fn := fun _ => fun
  | [d1, d2, d3] => { results := [.lit (.bool false)], args := [d1, d2, d3] }
  | _ => none }
def DataChecksWrongFalsely : Prop := dataChecksRow.holds Try.pinned (OpenSpec.ofChange dataChecksWrong)

/-- 'galleylaw06.DataUnits': WHATEVER THE INPUT: true; the input reads as it did. -/
def dataUnitsSpec : ChangeSpec := { name := "dataUnits", fn := fun _ => fun
  | [d] => { results := [.lit (.bool true)], args := [d] }
  | _ => none }
def dataUnitsRow : OpenClaim := { program := "ytelhnaphkbpakaa", sum := "c489795100b4b84f951599932ddc130056752a94c6f134d5589e31ec76f94605", func := "galley/galleylaw06.DataUnits", spec := "dataUnits", inPlace := ["internal/bytealg.abigen_runtime_cmpstring"], unfollowed := true, recurses := true, apart := false }
def DataUnitsSaid : Prop := dataUnitsRow.holds Try.pinned (OpenSpec.ofChange dataUnitsSpec)

/-- ITS FALSE NEIGHBOUR: 'it returns false'. Refute it at one input. -/
def dataUnitsWrong : ChangeSpec := { name := "dataUnits", fn := fun _ => fun
  | [d] => { results := [.lit (.bool false)], args := [d] }
  | _ => none }
def DataUnitsWrongFalsely : Prop := dataUnitsRow.holds Try.pinned (OpenSpec.ofChange dataUnitsWrong)

/-- 'galleylaw06.DataAttrs': WHATEVER THE INPUT: true; the input reads as it did. -/
def dataAttrsSpec : ChangeSpec := { name := "dataAttrs", fn := fun _ => fun
  | [d1, d2, d3] => { results := [.lit (.bool true)], args := [d1, d2, d3] }
  | _ => none }
def dataAttrsRow : OpenClaim := { program := "ytelhnaphkbpakaa", sum := "c489795100b4b84f951599932ddc130056752a94c6f134d5589e31ec76f94605", func := "galley/galleylaw06.DataAttrs", spec := "dataAttrs", inPlace := ["internal/bytealg.abigen_runtime_cmpstring"], unfollowed := true, recurses := true, apart := false }
def DataAttrsSaid : Prop := dataAttrsRow.holds Try.pinned (OpenSpec.ofChange dataAttrsSpec)

/-- ITS FALSE NEIGHBOUR: 'it returns false'. Refute it at one input. -/
def dataAttrsWrong : ChangeSpec := { name := "dataAttrs", fn := fun _ => fun
  | [d1, d2, d3] => { results := [.lit (.bool false)], args := [d1, d2, d3] }
  | _ => none }
def DataAttrsWrongFalsely : Prop := dataAttrsRow.holds Try.pinned (OpenSpec.ofChange dataAttrsWrong)

/-- 'galleylaw06.DataBack': WHATEVER THE INPUT: true; the input reads as it did. -/
def dataBackSpec : ChangeSpec := { name := "dataBack", fn := fun _ => fun
  | [d1, d2, d3] => { results := [.lit (.bool true)], args := [d1, d2, d3] }
  | _ => none }
def dataBackRow : OpenClaim := { program := "ytelhnaphkbpakaa", sum := "c489795100b4b84f951599932ddc130056752a94c6f134d5589e31ec76f94605", func := "galley/galleylaw06.DataBack", spec := "dataBack", inPlace := ["internal/bytealg.abigen_runtime_cmpstring"], unfollowed := true, recurses := true, apart := false }
def DataBackSaid : Prop := dataBackRow.holds Try.pinned (OpenSpec.ofChange dataBackSpec)

/-- ITS FALSE NEIGHBOUR: 'it returns false'. Refute it at one input. -/
def dataBackWrong : ChangeSpec := { name := "dataBack", fn := fun _ => fun
  | [d1, d2, d3] => { results := [.lit (.bool false)], args := [d1, d2, d3] }
  | _ => none }
def DataBackWrongFalsely : Prop := dataBackRow.holds Try.pinned (OpenSpec.ofChange dataBackWrong)

/-- 'galleylaw06.DataWords': WHATEVER THE INPUT: true; the input reads as it did. -/
def dataWordsSpec : ChangeSpec := { name := "dataWords", fn := fun _ => fun
  | [d] => { results := [.lit (.bool true)], args := [d] }
  | _ => none }
def dataWordsRow : OpenClaim := { program := "ytelhnaphkbpakaa", sum := "c489795100b4b84f951599932ddc130056752a94c6f134d5589e31ec76f94605", func := "galley/galleylaw06.DataWords", spec := "dataWords", inPlace := ["internal/bytealg.abigen_runtime_cmpstring"], unfollowed := true, recurses := true, apart := false }
def DataWordsSaid : Prop := dataWordsRow.holds Try.pinned (OpenSpec.ofChange dataWordsSpec)

/-- ITS FALSE NEIGHBOUR: 'it returns false'. Refute it at one input. -/
def dataWordsWrong : ChangeSpec := { name := "dataWords", fn := fun _ => fun
  | [d] => { results := [.lit (.bool false)], args := [d] }
  | _ => none }
def DataWordsWrongFalsely : Prop := dataWordsRow.holds Try.pinned (OpenSpec.ofChange dataWordsWrong)

/- THE SECOND FORM. 'bulk': how many values and letters a reading holds, each counted each time it is reached (what is shared counts as often as it is met; a slice's spare places count too). A statement '..UptoSaid' is the law's where the arguments, and the package variables that the reading takes, are together of bulk at most 1048576: NARROWER than '..Said'. Prove '..Said' where nothing that the law and all that it calls make is longer than what came in: it says more and counts as full. Else prove '..UptoSaid'. A law counts once. -/
mutual
def uptoBulk {H : Type} : DataW H → Nat
  | .lit (.string bytes) => bytes.length + 1
  | .lit _ => 1
  | .nil => 1
  | .ptr d => uptoBulk d + 1
  | .slice elems spare => uptoBulkAll elems + uptoBulkAll spare + 1
  | .agg parts => uptoBulkAll parts + 1
  | .iface _ d => uptoBulk d + 1
  | .map entries => uptoBulkEntries entries + 1
  | .held _ => 1
def uptoBulkAll {H : Type} : List (DataW H) → Nat
  | [] => 0
  | d :: r => uptoBulk d + uptoBulkAll r
def uptoBulkEntries {H : Type} : List (Lit × DataW H) → Nat
  | [] => 0
  | x :: r => uptoBulkEntry x + uptoBulkEntries r
def uptoBulkEntry {H : Type} : Lit × DataW H → Nat
  | (.string bytes, d) => bytes.length + uptoBulk d + 1
  | (_, d) => uptoBulk d + 1
 end
def uptoSmall : (H : Type) → List (DataW H) → Bool := fun _ ds => decide (uptoBulkAll ds ≤ 1048576)
def OpenSpec.upto (s : _root_.Go.ChangeSpec) : _root_.Go.OpenSpec := { _root_.Go.OpenSpec.ofChange s with cond := some uptoSmall }

/-- 'galleylaw07.LinksNames', WHERE WHAT IT READS IS OF BULK AT MOST 1048576: true; the input reads as it did. -/
def linksNamesUptoRow : OpenClaim := { program := "ytelhnaphkbpakaa", sum := "c489795100b4b84f951599932ddc130056752a94c6f134d5589e31ec76f94605", func := "galley/galleylaw07.LinksNames", spec := "linksNames", unfollowed := true, recurses := true, apart := false, narrowed := true }
def LinksNamesUptoSaid : Prop := linksNamesUptoRow.holds Try.pinned (OpenSpec.upto linksNamesSpec)

/-- 'galleylaw06.DataNames', WHERE WHAT IT READS IS OF BULK AT MOST 1048576: true; the input reads as it did. -/
def dataNamesUptoRow : OpenClaim := { program := "ytelhnaphkbpakaa", sum := "c489795100b4b84f951599932ddc130056752a94c6f134d5589e31ec76f94605", func := "galley/galleylaw06.DataNames", spec := "dataNames", inPlace := ["internal/bytealg.abigen_runtime_cmpstring"], unfollowed := true, recurses := true, apart := false, narrowed := true }
def DataNamesUptoSaid : Prop := dataNamesUptoRow.holds Try.pinned (OpenSpec.upto dataNamesSpec)

/-- 'galleylaw06.DataChecks', WHERE WHAT IT READS IS OF BULK AT MOST 1048576: true; the input reads as it did. -/
def dataChecksUptoRow : OpenClaim := { program := "ytelhnaphkbpakaa", sum := "c489795100b4b84f951599932ddc130056752a94c6f134d5589e31ec76f94605", func := "galley/galleylaw06.DataChecks", spec := "dataChecks", inPlace := ["internal/bytealg.abigen_runtime_cmpstring"], unfollowed := true, recurses := true, apart := false, narrowed := true }
def DataChecksUptoSaid : Prop := dataChecksUptoRow.holds Try.pinned (OpenSpec.upto dataChecksSpec)

/-- 'galleylaw06.DataUnits', WHERE WHAT IT READS IS OF BULK AT MOST 1048576: true; the input reads as it did. -/
def dataUnitsUptoRow : OpenClaim := { program := "ytelhnaphkbpakaa", sum := "c489795100b4b84f951599932ddc130056752a94c6f134d5589e31ec76f94605", func := "galley/galleylaw06.DataUnits", spec := "dataUnits", inPlace := ["internal/bytealg.abigen_runtime_cmpstring"], unfollowed := true, recurses := true, apart := false, narrowed := true }
def DataUnitsUptoSaid : Prop := dataUnitsUptoRow.holds Try.pinned (OpenSpec.upto dataUnitsSpec)

/-- 'galleylaw06.DataAttrs', WHERE WHAT IT READS IS OF BULK AT MOST 1048576: true; the input reads as it did. -/
def dataAttrsUptoRow : OpenClaim := { program := "ytelhnaphkbpakaa", sum := "c489795100b4b84f951599932ddc130056752a94c6f134d5589e31ec76f94605", func := "galley/galleylaw06.DataAttrs", spec := "dataAttrs", inPlace := ["internal/bytealg.abigen_runtime_cmpstring"], unfollowed := true, recurses := true, apart := false, narrowed := true }
def DataAttrsUptoSaid : Prop := dataAttrsUptoRow.holds Try.pinned (OpenSpec.upto dataAttrsSpec)

/-- 'galleylaw06.DataBack', WHERE WHAT IT READS IS OF BULK AT MOST 1048576: true; the input reads as it did. -/
def dataBackUptoRow : OpenClaim := { program := "ytelhnaphkbpakaa", sum := "c489795100b4b84f951599932ddc130056752a94c6f134d5589e31ec76f94605", func := "galley/galleylaw06.DataBack", spec := "dataBack", inPlace := ["internal/bytealg.abigen_runtime_cmpstring"], unfollowed := true, recurses := true, apart := false, narrowed := true }
def DataBackUptoSaid : Prop := dataBackUptoRow.holds Try.pinned (OpenSpec.upto dataBackSpec)

/-- 'galleylaw06.DataWords', WHERE WHAT IT READS IS OF BULK AT MOST 1048576: true; the input reads as it did. -/
def dataWordsUptoRow : OpenClaim := { program := "ytelhnaphkbpakaa", sum := "c489795100b4b84f951599932ddc130056752a94c6f134d5589e31ec76f94605", func := "galley/galleylaw06.DataWords", spec := "dataWords", inPlace := ["internal/bytealg.abigen_runtime_cmpstring"], unfollowed := true, recurses := true, apart := false, narrowed := true }
def DataWordsUptoSaid : Prop := dataWordsUptoRow.holds Try.pinned (OpenSpec.upto dataWordsSpec)

end Rows
end Go.Proofs.Ytelhnaphkbpakaa
