/-
  DERIVED. GIVEN WITH THE SEED: THE CARDS: each row of YthgcnmdnjfajbaaGreatDoorRows.lean that lists a variable, with what it lists TIED to the program's text (the seventh form; the later family's looks); each row that meets fmt, with fmt's text TOLD by the authors' own Lean function (tested against real Go, not proved from fmt's source: count such statements apart). THE CARD IS WHAT COUNTS. Prove the row's statement (the work); the ties are given (YthgcnmdnjfajbaaGreatDoorTie.lean); close each card by the builder's one call (the guide's Derived/Test/ToyasCard.lean, 'card_holds'). Laid BY PROGRAM, IN A SANDBOX (cutbox-door.mjs). By AI agents, Wed Nov 11 2026. No macro, syntax, notation, axiom, sorry.
-/
import Derived.Test.YthgcnmdnjfajbaaGreatDoorRows
import GoSem.ClaimSeven
namespace Go.Proofs.YthgcnmdnjfajbaaGreatDoor
namespace Rows

/-- THE TIED CARD OF 'latchkeylaw04.JotPlaces'. -/
def jotPlacesCard : Claim7 := { stood := { row := jotPlacesRow, standIns := [], harness := (true, "e34dd1f2400c87be70c1665b6390df386157abce75dad0577b1fb6a7296013cf"), looks := true }, kinds := [], alts := [], laidByText := true, laidKinds := [.data, .data, .data, .data, .pinned], laidTests := true, laidLooks := .later }
def JotPlacesCardSaid : Prop := Claim7.holds Tryz.pinned (.plain (OpenSpec.ofChange jotPlacesSpec)) jotPlacesCard

/-- THE SECOND FORM's CARD OF 'latchkeylaw04.JotPlaces'. -/
def jotPlacesUptoCard : Claim7 := { stood := { row := jotPlacesUptoRow, standIns := [], harness := (true, "e34dd1f2400c87be70c1665b6390df386157abce75dad0577b1fb6a7296013cf"), looks := true }, kinds := [], alts := [], laidByText := true, laidKinds := [.data, .data, .data, .data, .pinned], laidTests := true, laidLooks := .later }
def JotPlacesUptoCardSaid : Prop := Claim7.holds Tryz.pinned (.plain (OpenSpec.upto jotPlacesSpec)) jotPlacesUptoCard
end Rows
end Go.Proofs.YthgcnmdnjfajbaaGreatDoor
