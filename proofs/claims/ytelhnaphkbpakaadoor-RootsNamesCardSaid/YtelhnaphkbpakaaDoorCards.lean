/-
  DERIVED. GIVEN WITH THE SEED: THE CARDS: each row of YtelhnaphkbpakaaDoorRows.lean that lists a variable, with what it lists TIED to the program's text (the seventh form; the later family's looks); each row that meets fmt, with fmt's text TOLD by the authors' own Lean function (tested against real Go, not proved from fmt's source: count such statements apart). THE CARD IS WHAT COUNTS. Prove the row's statement (the work); the ties are given (YtelhnaphkbpakaaDoorTie.lean); close each card by the builder's one call (the guide's Derived/Test/ToyasCard.lean, 'card_holds'). Laid BY PROGRAM, IN A SANDBOX (cutbox-door.mjs). By AI agents, Wed Nov 11 2026. No macro, syntax, notation, axiom, sorry.
-/
import Derived.Test.YtelhnaphkbpakaaDoorRows
import GoSem.ClaimSeven
namespace Go.Proofs.YtelhnaphkbpakaaDoor
namespace Rows

/-- THE TIED CARD OF 'galleylaw08.TrailPairs'. -/
def trailPairsCard : Claim7 := { stood := { row := trailPairsRow, standIns := [], harness := (true, "a8a45651da05e1d99d5a179aea8d245fb1c4f516d0b9d1efe15a6e30c0409ab9"), looks := false }, kinds := [], alts := [], laidByText := true, laidKinds := [.data], laidTests := true, laidLooks := .later }
def TrailPairsCardSaid : Prop := Claim7.holds Tryd.pinned (.plain (OpenSpec.ofChange trailPairsSpec)) trailPairsCard

/-- THE TIED CARD OF 'galleylaw08.TrailNil'. -/
def trailNilCard : Claim7 := { stood := { row := trailNilRow, standIns := [], harness := (true, "a8a45651da05e1d99d5a179aea8d245fb1c4f516d0b9d1efe15a6e30c0409ab9"), looks := false }, kinds := [], alts := [], laidByText := true, laidKinds := [.data], laidTests := true, laidLooks := .later }
def TrailNilCardSaid : Prop := Claim7.holds Tryd.pinned (.plain (OpenSpec.ofChange trailNilSpec)) trailNilCard

/-- THE TIED CARD OF 'galleylaw10.RootsNames'. -/
def rootsNamesCard : Claim7 := { stood := { row := rootsNamesRow, standIns := [], harness := (true, "a8a45651da05e1d99d5a179aea8d245fb1c4f516d0b9d1efe15a6e30c0409ab9"), looks := false }, kinds := [], alts := [], laidByText := true, laidKinds := [.data], laidTests := true, laidLooks := .later }
def RootsNamesCardSaid : Prop := Claim7.holds Tryd.pinned (.plain (OpenSpec.ofChange rootsNamesSpec)) rootsNamesCard

/-- THE TIED CARD OF 'galleylaw08.TrailOrder'. -/
def trailOrderCard : Claim7 := { stood := { row := trailOrderRow, standIns := [], harness := (true, "a8a45651da05e1d99d5a179aea8d245fb1c4f516d0b9d1efe15a6e30c0409ab9"), looks := false }, kinds := [], alts := [], laidByText := true, laidKinds := [.data], laidTests := true, laidLooks := .later }
def TrailOrderCardSaid : Prop := Claim7.holds Tryd.pinned (.plain (OpenSpec.ofChange trailOrderSpec)) trailOrderCard

/-- THE TIED CARD OF 'galleylaw08.TrailWalks'. -/
def trailWalksCard : Claim7 := { stood := { row := trailWalksRow, standIns := [], harness := (true, "a8a45651da05e1d99d5a179aea8d245fb1c4f516d0b9d1efe15a6e30c0409ab9"), looks := false }, kinds := [], alts := [], laidByText := true, laidKinds := [.data], laidTests := true, laidLooks := .later }
def TrailWalksCardSaid : Prop := Claim7.holds Tryd.pinned (.plain (OpenSpec.ofChange trailWalksSpec)) trailWalksCard

/-- THE SECOND FORM's CARD OF 'galleylaw08.TrailPairs'. -/
def trailPairsUptoCard : Claim7 := { stood := { row := trailPairsUptoRow, standIns := [], harness := (true, "a8a45651da05e1d99d5a179aea8d245fb1c4f516d0b9d1efe15a6e30c0409ab9"), looks := false }, kinds := [], alts := [], laidByText := true, laidKinds := [.data], laidTests := true, laidLooks := .later }
def TrailPairsUptoCardSaid : Prop := Claim7.holds Tryd.pinned (.plain (OpenSpec.upto trailPairsSpec)) trailPairsUptoCard

/-- THE SECOND FORM's CARD OF 'galleylaw08.TrailNil'. -/
def trailNilUptoCard : Claim7 := { stood := { row := trailNilUptoRow, standIns := [], harness := (true, "a8a45651da05e1d99d5a179aea8d245fb1c4f516d0b9d1efe15a6e30c0409ab9"), looks := false }, kinds := [], alts := [], laidByText := true, laidKinds := [.data], laidTests := true, laidLooks := .later }
def TrailNilUptoCardSaid : Prop := Claim7.holds Tryd.pinned (.plain (OpenSpec.upto trailNilSpec)) trailNilUptoCard

/-- THE SECOND FORM's CARD OF 'galleylaw10.RootsNames'. -/
def rootsNamesUptoCard : Claim7 := { stood := { row := rootsNamesUptoRow, standIns := [], harness := (true, "a8a45651da05e1d99d5a179aea8d245fb1c4f516d0b9d1efe15a6e30c0409ab9"), looks := false }, kinds := [], alts := [], laidByText := true, laidKinds := [.data], laidTests := true, laidLooks := .later }
def RootsNamesUptoCardSaid : Prop := Claim7.holds Tryd.pinned (.plain (OpenSpec.upto rootsNamesSpec)) rootsNamesUptoCard

/-- THE SECOND FORM's CARD OF 'galleylaw08.TrailOrder'. -/
def trailOrderUptoCard : Claim7 := { stood := { row := trailOrderUptoRow, standIns := [], harness := (true, "a8a45651da05e1d99d5a179aea8d245fb1c4f516d0b9d1efe15a6e30c0409ab9"), looks := false }, kinds := [], alts := [], laidByText := true, laidKinds := [.data], laidTests := true, laidLooks := .later }
def TrailOrderUptoCardSaid : Prop := Claim7.holds Tryd.pinned (.plain (OpenSpec.upto trailOrderSpec)) trailOrderUptoCard

/-- THE SECOND FORM's CARD OF 'galleylaw08.TrailWalks'. -/
def trailWalksUptoCard : Claim7 := { stood := { row := trailWalksUptoRow, standIns := [], harness := (true, "a8a45651da05e1d99d5a179aea8d245fb1c4f516d0b9d1efe15a6e30c0409ab9"), looks := false }, kinds := [], alts := [], laidByText := true, laidKinds := [.data], laidTests := true, laidLooks := .later }
def TrailWalksUptoCardSaid : Prop := Claim7.holds Tryd.pinned (.plain (OpenSpec.upto trailWalksSpec)) trailWalksUptoCard
end Rows
end Go.Proofs.YtelhnaphkbpakaaDoor
