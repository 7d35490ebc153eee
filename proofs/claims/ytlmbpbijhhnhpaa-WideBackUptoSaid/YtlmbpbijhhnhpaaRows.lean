/-
  No cell of these rows narrows 'for every input' (looked for: loops, veiled, ifaces, maps, wideKeys, modest, calm, conditions, laid).
  DERIVED. THE GIVEN ROWS OF THIS SEAT. 8 by the template 'for every input the law returns true; each argument reads behind the call as it read before'; 0 by the template 'total and deterministic' (their statements: YtlmbpbijhhnhpaaTotals.lean).
  GIVEN WITH THE SEED: the statements are not yours to turn. If you find one false, say at which input.
  Laid BY PROGRAM, IN A SANDBOX (cutbox-rows.mjs): the forced cells as the released guide's own fill.sh prints them over the translation 03cdef10573c975b… (all of the seat's roots in one cut). By AI agents, Wed Nov 11 2026. No macro, syntax, notation, axiom, sorry.
-/
import Derived.Test.YtlmbpbijhhnhpaaChecked
import GoSem.Claim
import GoSem.ClaimJoined
import GoSem.ClaimMapViews
import Derived.JoinedTies
import Derived.KernelRfl
namespace Go.Proofs.Ytlmbpbijhhnhpaa
/- THE CELL 'sum', in the pinned program and in every row, IS THE sha256 OF THE DUMP (.gsa) THAT YtlmbpbijhhnhpaaProg.lean LOADS. Nothing in Lean hashes anything: it is a label: what it is worth is what the hold of that sum in a sandbox is worth. -/
noncomputable def Try.pinned : Pinned := { name := "ytlmbpbijhhnhpaa", sum := "03cdef10573c975b48eafc23ba92e4c7badfeb186eba97021222920b506e0d3b", checked := Try.checked }
namespace Rows
def none {H : Type} : Left H := { results := [], args := [] }

/-- 'galleylaw05.ArenaApart': WHATEVER THE INPUT: true; the input reads as it did. -/
def arenaApartSpec : ChangeSpec := { name := "arenaApart", fn := fun _ => fun
  | [d1, d2, d3] => { results := [.lit (.bool true)], args := [d1, d2, d3] }
  | _ => none }
def arenaApartRow : OpenClaim := { program := "ytlmbpbijhhnhpaa", sum := "03cdef10573c975b48eafc23ba92e4c7badfeb186eba97021222920b506e0d3b", func := "galley/galleylaw05.ArenaApart", spec := "arenaApart", apart := false }
def ArenaApartSaid : Prop := arenaApartRow.holds Try.pinned (OpenSpec.ofChange arenaApartSpec)

/-- ITS FALSE NEIGHBOUR: 'it returns false'. Refute it at one input. -/
def arenaApartWrong : ChangeSpec := { name := "arenaApart", fn := fun _ => fun
  | [d1, d2, d3] => { results := [.lit (.bool false)], args := [d1, d2, d3] }
  | _ => none }
def ArenaApartWrongFalsely : Prop := arenaApartRow.holds Try.pinned (OpenSpec.ofChange arenaApartWrong)

/-- 'galleylaw05.ArenaNever': WHATEVER THE INPUT: true; the input reads as it did. -/
def arenaNeverSpec : ChangeSpec := { name := "arenaNever", fn := fun _ => fun
  | [d1, d2, d3] => { results := [.lit (.bool true)], args := [d1, d2, d3] }
  | _ => none }
def arenaNeverRow : OpenClaim := { program := "ytlmbpbijhhnhpaa", sum := "03cdef10573c975b48eafc23ba92e4c7badfeb186eba97021222920b506e0d3b", func := "galley/galleylaw05.ArenaNever", spec := "arenaNever", apart := false }
def ArenaNeverSaid : Prop := arenaNeverRow.holds Try.pinned (OpenSpec.ofChange arenaNeverSpec)

/-- ITS FALSE NEIGHBOUR: 'it returns false'. Refute it at one input. -/
def arenaNeverWrong : ChangeSpec := { name := "arenaNever", fn := fun _ => fun
  | [d1, d2, d3] => { results := [.lit (.bool false)], args := [d1, d2, d3] }
  | _ => none }
def ArenaNeverWrongFalsely : Prop := arenaNeverRow.holds Try.pinned (OpenSpec.ofChange arenaNeverWrong)

/-- 'galleylaw05.ArenaPlays': WHATEVER THE INPUT: true; the input reads as it did. -/
def arenaPlaysSpec : ChangeSpec := { name := "arenaPlays", fn := fun _ => fun
  | [d1, d2, d3] => { results := [.lit (.bool true)], args := [d1, d2, d3] }
  | _ => none }
def arenaPlaysRow : OpenClaim := { program := "ytlmbpbijhhnhpaa", sum := "03cdef10573c975b48eafc23ba92e4c7badfeb186eba97021222920b506e0d3b", func := "galley/galleylaw05.ArenaPlays", spec := "arenaPlays", unfollowed := true, recurses := true, apart := false }
def ArenaPlaysSaid : Prop := arenaPlaysRow.holds Try.pinned (OpenSpec.ofChange arenaPlaysSpec)

/-- ITS FALSE NEIGHBOUR: 'it returns false'. Refute it at one input. -/
def arenaPlaysWrong : ChangeSpec := { name := "arenaPlays", fn := fun _ => fun
  | [d1, d2, d3] => { results := [.lit (.bool false)], args := [d1, d2, d3] }
  | _ => none }
def ArenaPlaysWrongFalsely : Prop := arenaPlaysRow.holds Try.pinned (OpenSpec.ofChange arenaPlaysWrong)

/-- 'galleylaw04.WideCompares': WHATEVER THE INPUT: true; the input reads as it did. -/
def wideComparesSpec : ChangeSpec := { name := "wideCompares", fn := fun _ => fun
  | [d1, d2] => { results := [.lit (.bool true)], args := [d1, d2] }
  | _ => none }
def wideComparesRow : OpenClaim := { program := "ytlmbpbijhhnhpaa", sum := "03cdef10573c975b48eafc23ba92e4c7badfeb186eba97021222920b506e0d3b", func := "galley/galleylaw04.WideCompares", spec := "wideCompares", unfollowed := true, recurses := true, apart := false }
def WideComparesSaid : Prop := wideComparesRow.holds Try.pinned (OpenSpec.ofChange wideComparesSpec)

/-- ITS FALSE NEIGHBOUR: 'it returns false'. Refute it at one input. -/
def wideComparesWrong : ChangeSpec := { name := "wideCompares", fn := fun _ => fun
  | [d1, d2] => { results := [.lit (.bool false)], args := [d1, d2] }
  | _ => none }
def WideComparesWrongFalsely : Prop := wideComparesRow.holds Try.pinned (OpenSpec.ofChange wideComparesWrong)

/-- 'galleylaw04.WideJoined': WHATEVER THE INPUT: true; the input reads as it did. -/
def wideJoinedSpec : ChangeSpec := { name := "wideJoined", fn := fun _ => fun
  | [d1, d2, d3, d4] => { results := [.lit (.bool true)], args := [d1, d2, d3, d4] }
  | _ => none }
def wideJoinedRow : OpenClaim := { program := "ytlmbpbijhhnhpaa", sum := "03cdef10573c975b48eafc23ba92e4c7badfeb186eba97021222920b506e0d3b", func := "galley/galleylaw04.WideJoined", spec := "wideJoined", unfollowed := true, recurses := true, apart := false }
def WideJoinedSaid : Prop := wideJoinedRow.holds Try.pinned (OpenSpec.ofChange wideJoinedSpec)

/-- ITS FALSE NEIGHBOUR: 'it returns false'. Refute it at one input. -/
def wideJoinedWrong : ChangeSpec := { name := "wideJoined", fn := fun _ => fun
  | [d1, d2, d3, d4] => { results := [.lit (.bool false)], args := [d1, d2, d3, d4] }
  | _ => none }
def WideJoinedWrongFalsely : Prop := wideJoinedRow.holds Try.pinned (OpenSpec.ofChange wideJoinedWrong)

/-- 'galleylaw04.WideTexts': WHATEVER THE INPUT: true; the input reads as it did. -/
def wideTextsSpec : ChangeSpec := { name := "wideTexts", fn := fun _ => fun
  | [d1, d2] => { results := [.lit (.bool true)], args := [d1, d2] }
  | _ => none }
def wideTextsRow : OpenClaim := { program := "ytlmbpbijhhnhpaa", sum := "03cdef10573c975b48eafc23ba92e4c7badfeb186eba97021222920b506e0d3b", func := "galley/galleylaw04.WideTexts", spec := "wideTexts", unfollowed := true, recurses := true, apart := false }
def WideTextsSaid : Prop := wideTextsRow.holds Try.pinned (OpenSpec.ofChange wideTextsSpec)

/-- ITS FALSE NEIGHBOUR: 'it returns false'. Refute it at one input. -/
def wideTextsWrong : ChangeSpec := { name := "wideTexts", fn := fun _ => fun
  | [d1, d2] => { results := [.lit (.bool false)], args := [d1, d2] }
  | _ => none }
def WideTextsWrongFalsely : Prop := wideTextsRow.holds Try.pinned (OpenSpec.ofChange wideTextsWrong)

/-- 'galleylaw04.WideUnits': WHATEVER THE INPUT: true; the input reads as it did. -/
def wideUnitsSpec : ChangeSpec := { name := "wideUnits", fn := fun _ => fun
  | [d1, d2] => { results := [.lit (.bool true)], args := [d1, d2] }
  | _ => none }
def wideUnitsRow : OpenClaim := { program := "ytlmbpbijhhnhpaa", sum := "03cdef10573c975b48eafc23ba92e4c7badfeb186eba97021222920b506e0d3b", func := "galley/galleylaw04.WideUnits", spec := "wideUnits", unfollowed := true, recurses := true, apart := false }
def WideUnitsSaid : Prop := wideUnitsRow.holds Try.pinned (OpenSpec.ofChange wideUnitsSpec)

/-- ITS FALSE NEIGHBOUR: 'it returns false'. Refute it at one input. -/
def wideUnitsWrong : ChangeSpec := { name := "wideUnits", fn := fun _ => fun
  | [d1, d2] => { results := [.lit (.bool false)], args := [d1, d2] }
  | _ => none }
def WideUnitsWrongFalsely : Prop := wideUnitsRow.holds Try.pinned (OpenSpec.ofChange wideUnitsWrong)

/-- 'galleylaw04.WideBack': WHATEVER THE INPUT: true; the input reads as it did. -/
def wideBackSpec : ChangeSpec := { name := "wideBack", fn := fun _ => fun
  | [d1, d2] => { results := [.lit (.bool true)], args := [d1, d2] }
  | _ => none }
def wideBackRow : OpenClaim := { program := "ytlmbpbijhhnhpaa", sum := "03cdef10573c975b48eafc23ba92e4c7badfeb186eba97021222920b506e0d3b", func := "galley/galleylaw04.WideBack", spec := "wideBack", unfollowed := true, recurses := true, apart := false }
def WideBackSaid : Prop := wideBackRow.holds Try.pinned (OpenSpec.ofChange wideBackSpec)

/-- ITS FALSE NEIGHBOUR: 'it returns false'. Refute it at one input. -/
def wideBackWrong : ChangeSpec := { name := "wideBack", fn := fun _ => fun
  | [d1, d2] => { results := [.lit (.bool false)], args := [d1, d2] }
  | _ => none }
def WideBackWrongFalsely : Prop := wideBackRow.holds Try.pinned (OpenSpec.ofChange wideBackWrong)

/- THE SECOND FORM. 'bulk': how many values and letters a reading holds, each counted each time it is reached (what is shared counts as often as it is met; a slice's spare places count too). A statement '..UptoSaid' is the law's where the arguments, and the package variables that the reading takes, are together of bulk at most 1048576: NARROWER than '..Said'. Prove '..Said' where nothing that the law and all that it calls make is longer than what came in: it says more and counts as full. Else prove '..UptoSaid'. A law counts once. -/
mutual
def uptoBulk {H : Type} : DataW H → Nat
  | .lit (.string bytes) => bytes.length + 1
  | .lit _ => 1
  | .nil => 1
  | .ptr d => uptoBulk d + 1
  | .slice elems spare => uptoBulkAll elems + uptoBulkAll spare + 1
  | .agg parts => uptoBulkAll parts + 1
  | .iface _ d => uptoBulk d + 1
  | .map entries => uptoBulkEntries entries + 1
  | .held _ => 1
def uptoBulkAll {H : Type} : List (DataW H) → Nat
  | [] => 0
  | d :: r => uptoBulk d + uptoBulkAll r
def uptoBulkEntries {H : Type} : List (Lit × DataW H) → Nat
  | [] => 0
  | x :: r => uptoBulkEntry x + uptoBulkEntries r
def uptoBulkEntry {H : Type} : Lit × DataW H → Nat
  | (.string bytes, d) => bytes.length + uptoBulk d + 1
  | (_, d) => uptoBulk d + 1
 end
def uptoSmall : (H : Type) → List (DataW H) → Bool := fun _ ds => decide (uptoBulkAll ds ≤ 1048576)
def OpenSpec.upto (s : _root_.Go.ChangeSpec) : _root_.Go.OpenSpec := { _root_.Go.OpenSpec.ofChange s with cond := some uptoSmall }

/-- 'galleylaw05.ArenaApart', WHERE WHAT IT READS IS OF BULK AT MOST 1048576: true; the input reads as it did. -/
def arenaApartUptoRow : OpenClaim := { program := "ytlmbpbijhhnhpaa", sum := "03cdef10573c975b48eafc23ba92e4c7badfeb186eba97021222920b506e0d3b", func := "galley/galleylaw05.ArenaApart", spec := "arenaApart", apart := false, narrowed := true }
def ArenaApartUptoSaid : Prop := arenaApartUptoRow.holds Try.pinned (OpenSpec.upto arenaApartSpec)

/-- 'galleylaw05.ArenaNever', WHERE WHAT IT READS IS OF BULK AT MOST 1048576: true; the input reads as it did. -/
def arenaNeverUptoRow : OpenClaim := { program := "ytlmbpbijhhnhpaa", sum := "03cdef10573c975b48eafc23ba92e4c7badfeb186eba97021222920b506e0d3b", func := "galley/galleylaw05.ArenaNever", spec := "arenaNever", apart := false, narrowed := true }
def ArenaNeverUptoSaid : Prop := arenaNeverUptoRow.holds Try.pinned (OpenSpec.upto arenaNeverSpec)

/-- 'galleylaw05.ArenaPlays', WHERE WHAT IT READS IS OF BULK AT MOST 1048576: true; the input reads as it did. -/
def arenaPlaysUptoRow : OpenClaim := { program := "ytlmbpbijhhnhpaa", sum := "03cdef10573c975b48eafc23ba92e4c7badfeb186eba97021222920b506e0d3b", func := "galley/galleylaw05.ArenaPlays", spec := "arenaPlays", unfollowed := true, recurses := true, apart := false, narrowed := true }
def ArenaPlaysUptoSaid : Prop := arenaPlaysUptoRow.holds Try.pinned (OpenSpec.upto arenaPlaysSpec)

/-- 'galleylaw04.WideCompares', WHERE WHAT IT READS IS OF BULK AT MOST 1048576: true; the input reads as it did. -/
def wideComparesUptoRow : OpenClaim := { program := "ytlmbpbijhhnhpaa", sum := "03cdef10573c975b48eafc23ba92e4c7badfeb186eba97021222920b506e0d3b", func := "galley/galleylaw04.WideCompares", spec := "wideCompares", unfollowed := true, recurses := true, apart := false, narrowed := true }
def WideComparesUptoSaid : Prop := wideComparesUptoRow.holds Try.pinned (OpenSpec.upto wideComparesSpec)

/-- 'galleylaw04.WideJoined', WHERE WHAT IT READS IS OF BULK AT MOST 1048576: true; the input reads as it did. -/
def wideJoinedUptoRow : OpenClaim := { program := "ytlmbpbijhhnhpaa", sum := "03cdef10573c975b48eafc23ba92e4c7badfeb186eba97021222920b506e0d3b", func := "galley/galleylaw04.WideJoined", spec := "wideJoined", unfollowed := true, recurses := true, apart := false, narrowed := true }
def WideJoinedUptoSaid : Prop := wideJoinedUptoRow.holds Try.pinned (OpenSpec.upto wideJoinedSpec)

/-- 'galleylaw04.WideTexts', WHERE WHAT IT READS IS OF BULK AT MOST 1048576: true; the input reads as it did. -/
def wideTextsUptoRow : OpenClaim := { program := "ytlmbpbijhhnhpaa", sum := "03cdef10573c975b48eafc23ba92e4c7badfeb186eba97021222920b506e0d3b", func := "galley/galleylaw04.WideTexts", spec := "wideTexts", unfollowed := true, recurses := true, apart := false, narrowed := true }
def WideTextsUptoSaid : Prop := wideTextsUptoRow.holds Try.pinned (OpenSpec.upto wideTextsSpec)

/-- 'galleylaw04.WideUnits', WHERE WHAT IT READS IS OF BULK AT MOST 1048576: true; the input reads as it did. -/
def wideUnitsUptoRow : OpenClaim := { program := "ytlmbpbijhhnhpaa", sum := "03cdef10573c975b48eafc23ba92e4c7badfeb186eba97021222920b506e0d3b", func := "galley/galleylaw04.WideUnits", spec := "wideUnits", unfollowed := true, recurses := true, apart := false, narrowed := true }
def WideUnitsUptoSaid : Prop := wideUnitsUptoRow.holds Try.pinned (OpenSpec.upto wideUnitsSpec)

/-- 'galleylaw04.WideBack', WHERE WHAT IT READS IS OF BULK AT MOST 1048576: true; the input reads as it did. -/
def wideBackUptoRow : OpenClaim := { program := "ytlmbpbijhhnhpaa", sum := "03cdef10573c975b48eafc23ba92e4c7badfeb186eba97021222920b506e0d3b", func := "galley/galleylaw04.WideBack", spec := "wideBack", unfollowed := true, recurses := true, apart := false, narrowed := true }
def WideBackUptoSaid : Prop := wideBackUptoRow.holds Try.pinned (OpenSpec.upto wideBackSpec)

end Rows
end Go.Proofs.Ytlmbpbijhhnhpaa
