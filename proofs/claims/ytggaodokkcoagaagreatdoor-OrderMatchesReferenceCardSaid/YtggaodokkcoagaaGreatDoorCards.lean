/-
  DERIVED. GIVEN WITH THE SEED: THE CARDS: each row of YtggaodokkcoagaaGreatDoorRows.lean that lists a variable, with what it lists TIED to the program's text (the seventh form; the later family's looks); each row that meets fmt, with fmt's text TOLD by the authors' own Lean function (tested against real Go, not proved from fmt's source: count such statements apart). THE CARD IS WHAT COUNTS. Prove the row's statement (the work); the ties are given (YtggaodokkcoagaaGreatDoorTie.lean); close each card by the builder's one call (the guide's Derived/Test/ToyasCard.lean, 'card_holds'). Laid BY PROGRAM, IN A SANDBOX (cutbox-door.mjs). By AI agents, Wed Nov 11 2026. No macro, syntax, notation, axiom, sorry.
-/
import Derived.Test.YtggaodokkcoagaaGreatDoorRows
import GoSem.ClaimSeven
namespace Go.Proofs.YtggaodokkcoagaaGreatDoor
namespace Rows

/-- THE TIED CARD OF 'regulatorlaw27.OrderMatchesReference'. -/
def orderMatchesReferenceCard : Claim7 := { stood := { row := orderMatchesReferenceRow, standIns := [], harness := (true, "a0e7f303bc75ffc6823e4430a1acf0a2d5f7b31a6b6c0dcbe108a22a516a1bc1"), looks := false }, kinds := [], alts := [], laidByText := true, laidKinds := [.data, .data, .data], laidTests := true, laidLooks := .later }
def OrderMatchesReferenceCardSaid : Prop := Claim7.holds Tryz.pinned (.plain (OpenSpec.ofChange orderMatchesReferenceSpec)) orderMatchesReferenceCard

/-- THE TIED CARD OF 'regulatorlaw27.OrderLog'. -/
def orderLogCard : Claim7 := { stood := { row := orderLogRow, standIns := [], harness := (true, "a0e7f303bc75ffc6823e4430a1acf0a2d5f7b31a6b6c0dcbe108a22a516a1bc1"), looks := false }, kinds := [], alts := [], laidByText := true, laidKinds := [.data, .data, .data], laidTests := true, laidLooks := .later }
def OrderLogCardSaid : Prop := Claim7.holds Tryz.pinned (.plain (OpenSpec.ofChange orderLogSpec)) orderLogCard

/-- THE TIED CARD OF 'regulatorlaw27.OrderGrows'. -/
def orderGrowsCard : Claim7 := { stood := { row := orderGrowsRow, standIns := [], harness := (true, "a0e7f303bc75ffc6823e4430a1acf0a2d5f7b31a6b6c0dcbe108a22a516a1bc1"), looks := false }, kinds := [], alts := [], laidByText := true, laidKinds := [.data, .data, .data], laidTests := true, laidLooks := .later }
def OrderGrowsCardSaid : Prop := Claim7.holds Tryz.pinned (.plain (OpenSpec.ofChange orderGrowsSpec)) orderGrowsCard

/-- THE TIED CARD OF 'regulatorlaw27.OrderOffices'. -/
def orderOfficesCard : Claim7 := { stood := { row := orderOfficesRow, standIns := [], harness := (true, "a0e7f303bc75ffc6823e4430a1acf0a2d5f7b31a6b6c0dcbe108a22a516a1bc1"), looks := false }, kinds := [], alts := [], laidByText := true, laidKinds := [.data, .data, .data], laidTests := true, laidLooks := .later }
def OrderOfficesCardSaid : Prop := Claim7.holds Tryz.pinned (.plain (OpenSpec.ofChange orderOfficesSpec)) orderOfficesCard

/-- THE TIED CARD OF 'regulatorlaw27.OrderFinds'. -/
def orderFindsCard : Claim7 := { stood := { row := orderFindsRow, standIns := [], harness := (true, "a0e7f303bc75ffc6823e4430a1acf0a2d5f7b31a6b6c0dcbe108a22a516a1bc1"), looks := false }, kinds := [], alts := [], laidByText := true, laidKinds := [.data, .data, .data], laidTests := true, laidLooks := .later }
def OrderFindsCardSaid : Prop := Claim7.holds Tryz.pinned (.plain (OpenSpec.ofChange orderFindsSpec)) orderFindsCard

/-- THE TIED CARD OF 'regulatorlaw27.OrderTime'. -/
def orderTimeCard : Claim7 := { stood := { row := orderTimeRow, standIns := [], harness := (true, "a0e7f303bc75ffc6823e4430a1acf0a2d5f7b31a6b6c0dcbe108a22a516a1bc1"), looks := false }, kinds := [], alts := [], laidByText := true, laidKinds := [.data, .data, .data], laidTests := true, laidLooks := .later }
def OrderTimeCardSaid : Prop := Claim7.holds Tryz.pinned (.plain (OpenSpec.ofChange orderTimeSpec)) orderTimeCard

/-- THE TIED CARD OF 'regulatorlaw27.OrderTampers'. -/
def orderTampersCard : Claim7 := { stood := { row := orderTampersRow, standIns := [], harness := (true, "a0e7f303bc75ffc6823e4430a1acf0a2d5f7b31a6b6c0dcbe108a22a516a1bc1"), looks := false }, kinds := [], alts := [], laidByText := true, laidKinds := [.data, .data, .data], laidTests := true, laidLooks := .later }
def OrderTampersCardSaid : Prop := Claim7.holds Tryz.pinned (.plain (OpenSpec.ofChange orderTampersSpec)) orderTampersCard

/-- THE SECOND FORM's CARD OF 'regulatorlaw27.OrderMatchesReference'. -/
def orderMatchesReferenceUptoCard : Claim7 := { stood := { row := orderMatchesReferenceUptoRow, standIns := [], harness := (true, "a0e7f303bc75ffc6823e4430a1acf0a2d5f7b31a6b6c0dcbe108a22a516a1bc1"), looks := false }, kinds := [], alts := [], laidByText := true, laidKinds := [.data, .data, .data], laidTests := true, laidLooks := .later }
def OrderMatchesReferenceUptoCardSaid : Prop := Claim7.holds Tryz.pinned (.plain (OpenSpec.upto orderMatchesReferenceSpec)) orderMatchesReferenceUptoCard

/-- THE SECOND FORM's CARD OF 'regulatorlaw27.OrderLog'. -/
def orderLogUptoCard : Claim7 := { stood := { row := orderLogUptoRow, standIns := [], harness := (true, "a0e7f303bc75ffc6823e4430a1acf0a2d5f7b31a6b6c0dcbe108a22a516a1bc1"), looks := false }, kinds := [], alts := [], laidByText := true, laidKinds := [.data, .data, .data], laidTests := true, laidLooks := .later }
def OrderLogUptoCardSaid : Prop := Claim7.holds Tryz.pinned (.plain (OpenSpec.upto orderLogSpec)) orderLogUptoCard

/-- THE SECOND FORM's CARD OF 'regulatorlaw27.OrderGrows'. -/
def orderGrowsUptoCard : Claim7 := { stood := { row := orderGrowsUptoRow, standIns := [], harness := (true, "a0e7f303bc75ffc6823e4430a1acf0a2d5f7b31a6b6c0dcbe108a22a516a1bc1"), looks := false }, kinds := [], alts := [], laidByText := true, laidKinds := [.data, .data, .data], laidTests := true, laidLooks := .later }
def OrderGrowsUptoCardSaid : Prop := Claim7.holds Tryz.pinned (.plain (OpenSpec.upto orderGrowsSpec)) orderGrowsUptoCard

/-- THE SECOND FORM's CARD OF 'regulatorlaw27.OrderOffices'. -/
def orderOfficesUptoCard : Claim7 := { stood := { row := orderOfficesUptoRow, standIns := [], harness := (true, "a0e7f303bc75ffc6823e4430a1acf0a2d5f7b31a6b6c0dcbe108a22a516a1bc1"), looks := false }, kinds := [], alts := [], laidByText := true, laidKinds := [.data, .data, .data], laidTests := true, laidLooks := .later }
def OrderOfficesUptoCardSaid : Prop := Claim7.holds Tryz.pinned (.plain (OpenSpec.upto orderOfficesSpec)) orderOfficesUptoCard

/-- THE SECOND FORM's CARD OF 'regulatorlaw27.OrderFinds'. -/
def orderFindsUptoCard : Claim7 := { stood := { row := orderFindsUptoRow, standIns := [], harness := (true, "a0e7f303bc75ffc6823e4430a1acf0a2d5f7b31a6b6c0dcbe108a22a516a1bc1"), looks := false }, kinds := [], alts := [], laidByText := true, laidKinds := [.data, .data, .data], laidTests := true, laidLooks := .later }
def OrderFindsUptoCardSaid : Prop := Claim7.holds Tryz.pinned (.plain (OpenSpec.upto orderFindsSpec)) orderFindsUptoCard

/-- THE SECOND FORM's CARD OF 'regulatorlaw27.OrderTime'. -/
def orderTimeUptoCard : Claim7 := { stood := { row := orderTimeUptoRow, standIns := [], harness := (true, "a0e7f303bc75ffc6823e4430a1acf0a2d5f7b31a6b6c0dcbe108a22a516a1bc1"), looks := false }, kinds := [], alts := [], laidByText := true, laidKinds := [.data, .data, .data], laidTests := true, laidLooks := .later }
def OrderTimeUptoCardSaid : Prop := Claim7.holds Tryz.pinned (.plain (OpenSpec.upto orderTimeSpec)) orderTimeUptoCard

/-- THE SECOND FORM's CARD OF 'regulatorlaw27.OrderTampers'. -/
def orderTampersUptoCard : Claim7 := { stood := { row := orderTampersUptoRow, standIns := [], harness := (true, "a0e7f303bc75ffc6823e4430a1acf0a2d5f7b31a6b6c0dcbe108a22a516a1bc1"), looks := false }, kinds := [], alts := [], laidByText := true, laidKinds := [.data, .data, .data], laidTests := true, laidLooks := .later }
def OrderTampersUptoCardSaid : Prop := Claim7.holds Tryz.pinned (.plain (OpenSpec.upto orderTampersSpec)) orderTampersUptoCard
end Rows
end Go.Proofs.YtggaodokkcoagaaGreatDoor
