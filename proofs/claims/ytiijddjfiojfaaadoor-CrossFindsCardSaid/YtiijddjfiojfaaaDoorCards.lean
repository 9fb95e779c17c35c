/-
  DERIVED. GIVEN WITH THE SEED: THE CARDS: each row of YtiijddjfiojfaaaDoorRows.lean that lists a variable, with what it lists TIED to the program's text (the seventh form; the later family's looks); each row that meets fmt, with fmt's text TOLD by the authors' own Lean function (tested against real Go, not proved from fmt's source: count such statements apart). THE CARD IS WHAT COUNTS. Prove the row's statement (the work); the ties are given (YtiijddjfiojfaaaDoorTie.lean); close each card by the builder's one call (the guide's Derived/Test/ToyasCard.lean, 'card_holds'). Laid BY PROGRAM, IN A SANDBOX (cutbox-door.mjs). By AI agents, Wed Nov 11 2026. No macro, syntax, notation, axiom, sorry.
-/
import Derived.Test.YtiijddjfiojfaaaDoorRows
import GoSem.ClaimSeven
namespace Go.Proofs.YtiijddjfiojfaaaDoor
namespace Rows

/-- THE TIED CARD OF 'regulatorlaw26.CrossFinds'. -/
def crossFindsCard : Claim7 := { stood := { row := crossFindsRow, standIns := [], harness := (true, "a8a3e03d6d2ae95a77af224c5471b5997af424ba7ee1f27675d2a82784156652"), looks := false }, kinds := [], alts := [], laidByText := true, laidKinds := [.data, .data, .data], laidTests := true, laidLooks := .later }
def CrossFindsCardSaid : Prop := Claim7.holds Tryd.pinned (.plain (OpenSpec.ofChange crossFindsSpec)) crossFindsCard

/-- THE TIED CARD OF 'regulatorlaw26.CrossForks'. -/
def crossForksCard : Claim7 := { stood := { row := crossForksRow, standIns := [], harness := (true, "a8a3e03d6d2ae95a77af224c5471b5997af424ba7ee1f27675d2a82784156652"), looks := false }, kinds := [], alts := [], laidByText := true, laidKinds := [.data, .data, .data], laidTests := true, laidLooks := .later }
def CrossForksCardSaid : Prop := Claim7.holds Tryd.pinned (.plain (OpenSpec.ofChange crossForksSpec)) crossForksCard

/-- THE TIED CARD OF 'regulatorlaw26.CrossHonest'. -/
def crossHonestCard : Claim7 := { stood := { row := crossHonestRow, standIns := [], harness := (true, "a8a3e03d6d2ae95a77af224c5471b5997af424ba7ee1f27675d2a82784156652"), looks := false }, kinds := [], alts := [], laidByText := true, laidKinds := [.data, .data, .data], laidTests := true, laidLooks := .later }
def CrossHonestCardSaid : Prop := Claim7.holds Tryd.pinned (.plain (OpenSpec.ofChange crossHonestSpec)) crossHonestCard

/-- THE TIED CARD OF 'regulatorlaw26.CrossWitness'. -/
def crossWitnessCard : Claim7 := { stood := { row := crossWitnessRow, standIns := [], harness := (true, "a8a3e03d6d2ae95a77af224c5471b5997af424ba7ee1f27675d2a82784156652"), looks := false }, kinds := [], alts := [], laidByText := true, laidKinds := [.data, .data, .data], laidTests := true, laidLooks := .later }
def CrossWitnessCardSaid : Prop := Claim7.holds Tryd.pinned (.plain (OpenSpec.ofChange crossWitnessSpec)) crossWitnessCard

/-- THE TIED CARD OF 'regulatorlaw26.CrossOther'. -/
def crossOtherCard : Claim7 := { stood := { row := crossOtherRow, standIns := [], harness := (true, "a8a3e03d6d2ae95a77af224c5471b5997af424ba7ee1f27675d2a82784156652"), looks := false }, kinds := [], alts := [], laidByText := true, laidKinds := [.data, .data, .data], laidTests := true, laidLooks := .later }
def CrossOtherCardSaid : Prop := Claim7.holds Tryd.pinned (.plain (OpenSpec.ofChange crossOtherSpec)) crossOtherCard

/-- THE SECOND FORM's CARD OF 'regulatorlaw26.CrossFinds'. -/
def crossFindsUptoCard : Claim7 := { stood := { row := crossFindsUptoRow, standIns := [], harness := (true, "a8a3e03d6d2ae95a77af224c5471b5997af424ba7ee1f27675d2a82784156652"), looks := false }, kinds := [], alts := [], laidByText := true, laidKinds := [.data, .data, .data], laidTests := true, laidLooks := .later }
def CrossFindsUptoCardSaid : Prop := Claim7.holds Tryd.pinned (.plain (OpenSpec.upto crossFindsSpec)) crossFindsUptoCard

/-- THE SECOND FORM's CARD OF 'regulatorlaw26.CrossForks'. -/
def crossForksUptoCard : Claim7 := { stood := { row := crossForksUptoRow, standIns := [], harness := (true, "a8a3e03d6d2ae95a77af224c5471b5997af424ba7ee1f27675d2a82784156652"), looks := false }, kinds := [], alts := [], laidByText := true, laidKinds := [.data, .data, .data], laidTests := true, laidLooks := .later }
def CrossForksUptoCardSaid : Prop := Claim7.holds Tryd.pinned (.plain (OpenSpec.upto crossForksSpec)) crossForksUptoCard

/-- THE SECOND FORM's CARD OF 'regulatorlaw26.CrossHonest'. -/
def crossHonestUptoCard : Claim7 := { stood := { row := crossHonestUptoRow, standIns := [], harness := (true, "a8a3e03d6d2ae95a77af224c5471b5997af424ba7ee1f27675d2a82784156652"), looks := false }, kinds := [], alts := [], laidByText := true, laidKinds := [.data, .data, .data], laidTests := true, laidLooks := .later }
def CrossHonestUptoCardSaid : Prop := Claim7.holds Tryd.pinned (.plain (OpenSpec.upto crossHonestSpec)) crossHonestUptoCard

/-- THE SECOND FORM's CARD OF 'regulatorlaw26.CrossWitness'. -/
def crossWitnessUptoCard : Claim7 := { stood := { row := crossWitnessUptoRow, standIns := [], harness := (true, "a8a3e03d6d2ae95a77af224c5471b5997af424ba7ee1f27675d2a82784156652"), looks := false }, kinds := [], alts := [], laidByText := true, laidKinds := [.data, .data, .data], laidTests := true, laidLooks := .later }
def CrossWitnessUptoCardSaid : Prop := Claim7.holds Tryd.pinned (.plain (OpenSpec.upto crossWitnessSpec)) crossWitnessUptoCard

/-- THE SECOND FORM's CARD OF 'regulatorlaw26.CrossOther'. -/
def crossOtherUptoCard : Claim7 := { stood := { row := crossOtherUptoRow, standIns := [], harness := (true, "a8a3e03d6d2ae95a77af224c5471b5997af424ba7ee1f27675d2a82784156652"), looks := false }, kinds := [], alts := [], laidByText := true, laidKinds := [.data, .data, .data], laidTests := true, laidLooks := .later }
def CrossOtherUptoCardSaid : Prop := Claim7.holds Tryd.pinned (.plain (OpenSpec.upto crossOtherSpec)) crossOtherUptoCard
end Rows
end Go.Proofs.YtiijddjfiojfaaaDoor
