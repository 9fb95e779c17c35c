/-
  DERIVED. GIVEN WITH THE SEED: THE CARDS: each row of YtiijddjfiojfaaaGreatDoorRows.lean that lists a variable, with what it lists TIED to the program's text (the seventh form; the later family's looks); each row that meets fmt, with fmt's text TOLD by the authors' own Lean function (tested against real Go, not proved from fmt's source: count such statements apart). THE CARD IS WHAT COUNTS. Prove the row's statement (the work); the ties are given (YtiijddjfiojfaaaGreatDoorTie.lean); close each card by the builder's one call (the guide's Derived/Test/ToyasCard.lean, 'card_holds'). Laid BY PROGRAM, IN A SANDBOX (cutbox-door.mjs). By AI agents, Wed Nov 11 2026. No macro, syntax, notation, axiom, sorry.
-/
import Derived.Test.YtiijddjfiojfaaaGreatDoorRows
import GoSem.ClaimSeven
namespace Go.Proofs.YtiijddjfiojfaaaGreatDoor
namespace Rows

/-- THE TIED CARD OF 'regulatorlaw26.CrossMatchesReference'. -/
def crossMatchesReferenceCard : Claim7 := { stood := { row := crossMatchesReferenceRow, standIns := [], harness := (true, "4ff943070251f58520d1f22ce41d947cbf1d7f79746b86cc02313c217a0c567f"), looks := false }, kinds := [], alts := [], laidByText := true, laidKinds := [.data, .data, .data], laidTests := true, laidLooks := .later }
def CrossMatchesReferenceCardSaid : Prop := Claim7.holds Tryz.pinned (.plain (OpenSpec.ofChange crossMatchesReferenceSpec)) crossMatchesReferenceCard

/-- THE SECOND FORM's CARD OF 'regulatorlaw26.CrossMatchesReference'. -/
def crossMatchesReferenceUptoCard : Claim7 := { stood := { row := crossMatchesReferenceUptoRow, standIns := [], harness := (true, "4ff943070251f58520d1f22ce41d947cbf1d7f79746b86cc02313c217a0c567f"), looks := false }, kinds := [], alts := [], laidByText := true, laidKinds := [.data, .data, .data], laidTests := true, laidLooks := .later }
def CrossMatchesReferenceUptoCardSaid : Prop := Claim7.holds Tryz.pinned (.plain (OpenSpec.upto crossMatchesReferenceSpec)) crossMatchesReferenceUptoCard
end Rows
end Go.Proofs.YtiijddjfiojfaaaGreatDoor
