/-
  DERIVED. GIVEN WITH THE SEED: THE CARDS: each row of YtodjhpjcgggamaaGreatDoorRows.lean that lists a variable, with what it lists TIED to the program's text (the seventh form; the later family's looks); each row that meets fmt, with fmt's text TOLD by the authors' own Lean function (tested against real Go, not proved from fmt's source: count such statements apart). THE CARD IS WHAT COUNTS. Prove the row's statement (the work); the ties are given (YtodjhpjcgggamaaGreatDoorTie.lean); close each card by the builder's one call (the guide's Derived/Test/ToyasCard.lean, 'card_holds'). Laid BY PROGRAM, IN A SANDBOX (cutbox-door.mjs). By AI agents, Wed Nov 11 2026. No macro, syntax, notation, axiom, sorry.
-/
import Derived.Test.YtodjhpjcgggamaaGreatDoorRows
import GoSem.ClaimSeven
namespace Go.Proofs.YtodjhpjcgggamaaGreatDoor
namespace Rows

/-- THE TIED CARD OF 'viatorlaw44.TypesNamed'. -/
def typesNamedCard : Claim7 := { stood := { row := typesNamedRow, standIns := [], harness := (true, "ec661c538ca564c9aa898f87bcc3079a64f087aac8284897b9f9d95eba9a15aa"), looks := false }, kinds := [], alts := [], laidByText := true, laidKinds := [.data, .pinned], laidTests := true, laidLooks := .later }
def TypesNamedCardSaid : Prop := Claim7.holds Tryz.pinned (.plain (OpenSpec.ofChange typesNamedSpec)) typesNamedCard

/-- THE SECOND FORM's CARD OF 'viatorlaw44.TypesNamed'. -/
def typesNamedUptoCard : Claim7 := { stood := { row := typesNamedUptoRow, standIns := [], harness := (true, "ec661c538ca564c9aa898f87bcc3079a64f087aac8284897b9f9d95eba9a15aa"), looks := false }, kinds := [], alts := [], laidByText := true, laidKinds := [.data, .pinned], laidTests := true, laidLooks := .later }
def TypesNamedUptoCardSaid : Prop := Claim7.holds Tryz.pinned (.plain (OpenSpec.upto typesNamedSpec)) typesNamedUptoCard
end Rows
end Go.Proofs.YtodjhpjcgggamaaGreatDoor
