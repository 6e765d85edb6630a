/-
  DERIVED. GIVEN WITH THE SEED: THE CARDS: each row of YtnljmpeaeajcoaaGreatDoorRows.lean that lists a variable, with what it lists TIED to the program's text (the seventh form; the later family's looks); each row that meets fmt, with fmt's text TOLD by the authors' own Lean function (tested against real Go, not proved from fmt's source: count such statements apart). THE CARD IS WHAT COUNTS. Prove the row's statement (the work); the ties are given (YtnljmpeaeajcoaaGreatDoorTie.lean); close each card by the builder's one call (the guide's Derived/Test/ToyasCard.lean, 'card_holds'). Laid BY PROGRAM, IN A SANDBOX (cutbox-door.mjs). By AI agents, Wed Nov 11 2026. No macro, syntax, notation, axiom, sorry.
-/
import Derived.Test.YtnljmpeaeajcoaaGreatDoorRows
import GoSem.ClaimSeven
namespace Go.Proofs.YtnljmpeaeajcoaaGreatDoor
namespace Rows

/-- THE TIED CARD OF 'viatorlaw44.TypesNames'. -/
def typesNamesCard : Claim7 := { stood := { row := typesNamesRow, standIns := [], harness := (true, "94428c47861fcc32e83fd52dd3e07929f56cb2249bf8a8136db99c3c2676bb42"), looks := false }, kinds := [], alts := [], laidByText := true, laidKinds := [.data, .pinned], laidTests := true, laidLooks := .later }
def TypesNamesCardSaid : Prop := Claim7.holds Tryz.pinned (.plain (OpenSpec.ofChange typesNamesSpec)) typesNamesCard

/-- THE TIED CARD OF 'viatorlaw44.TypesTyped'. -/
def typesTypedCard : Claim7 := { stood := { row := typesTypedRow, standIns := [], harness := (true, "94428c47861fcc32e83fd52dd3e07929f56cb2249bf8a8136db99c3c2676bb42"), looks := false }, kinds := [], alts := [], laidByText := true, laidKinds := [.data, .pinned], laidTests := true, laidLooks := .later }
def TypesTypedCardSaid : Prop := Claim7.holds Tryz.pinned (.plain (OpenSpec.ofChange typesTypedSpec)) typesTypedCard

/-- THE TIED CARD OF 'viatorlaw44.TypesQueries'. -/
def typesQueriesCard : Claim7 := { stood := { row := typesQueriesRow, standIns := [], harness := (true, "94428c47861fcc32e83fd52dd3e07929f56cb2249bf8a8136db99c3c2676bb42"), looks := false }, kinds := [], alts := [], laidByText := true, laidKinds := [.data, .pinned], laidTests := true, laidLooks := .later }
def TypesQueriesCardSaid : Prop := Claim7.holds Tryz.pinned (.plain (OpenSpec.ofChange typesQueriesSpec)) typesQueriesCard

/-- THE SECOND FORM's CARD OF 'viatorlaw44.TypesNames'. -/
def typesNamesUptoCard : Claim7 := { stood := { row := typesNamesUptoRow, standIns := [], harness := (true, "94428c47861fcc32e83fd52dd3e07929f56cb2249bf8a8136db99c3c2676bb42"), looks := false }, kinds := [], alts := [], laidByText := true, laidKinds := [.data, .pinned], laidTests := true, laidLooks := .later }
def TypesNamesUptoCardSaid : Prop := Claim7.holds Tryz.pinned (.plain (OpenSpec.upto typesNamesSpec)) typesNamesUptoCard

/-- THE SECOND FORM's CARD OF 'viatorlaw44.TypesTyped'. -/
def typesTypedUptoCard : Claim7 := { stood := { row := typesTypedUptoRow, standIns := [], harness := (true, "94428c47861fcc32e83fd52dd3e07929f56cb2249bf8a8136db99c3c2676bb42"), looks := false }, kinds := [], alts := [], laidByText := true, laidKinds := [.data, .pinned], laidTests := true, laidLooks := .later }
def TypesTypedUptoCardSaid : Prop := Claim7.holds Tryz.pinned (.plain (OpenSpec.upto typesTypedSpec)) typesTypedUptoCard

/-- THE SECOND FORM's CARD OF 'viatorlaw44.TypesQueries'. -/
def typesQueriesUptoCard : Claim7 := { stood := { row := typesQueriesUptoRow, standIns := [], harness := (true, "94428c47861fcc32e83fd52dd3e07929f56cb2249bf8a8136db99c3c2676bb42"), looks := false }, kinds := [], alts := [], laidByText := true, laidKinds := [.data, .pinned], laidTests := true, laidLooks := .later }
def TypesQueriesUptoCardSaid : Prop := Claim7.holds Tryz.pinned (.plain (OpenSpec.upto typesQueriesSpec)) typesQueriesUptoCard
end Rows
end Go.Proofs.YtnljmpeaeajcoaaGreatDoor
