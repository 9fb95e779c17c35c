/-
  DERIVED. GIVEN WITH THE SEED: THE CARDS: each row of YtmfjcachghboiaaDoorRows.lean that lists a variable, with what it lists TIED to the program's text (the seventh form; the later family's looks); each row that meets fmt, with fmt's text TOLD by the authors' own Lean function (tested against real Go, not proved from fmt's source: count such statements apart). THE CARD IS WHAT COUNTS. Prove the row's statement (the work); the ties are given (YtmfjcachghboiaaDoorTie.lean); close each card by the builder's one call (the guide's Derived/Test/ToyasCard.lean, 'card_holds'). Laid BY PROGRAM, IN A SANDBOX (cutbox-door.mjs). By AI agents, Wed Nov 11 2026. No macro, syntax, notation, axiom, sorry.
-/
import Derived.Test.YtmfjcachghboiaaDoorRows
import GoSem.ClaimSeven
namespace Go.Proofs.YtmfjcachghboiaaDoor
namespace Rows

/-- THE TIED CARD OF 'regulatorlaw25.OfficeMatchesReference'. -/
def officeMatchesReferenceCard : Claim7 := { stood := { row := officeMatchesReferenceRow, standIns := [], harness := (true, "4be4bb7a2c29d7c32627abf3504aacc108cec02485752debd9f5cdcf2e03142a"), looks := false }, kinds := [], alts := [], laidByText := true, laidKinds := [.data, .data, .data], laidTests := true, laidLooks := .later }
def OfficeMatchesReferenceCardSaid : Prop := Claim7.holds Tryd.pinned (.plain (OpenSpec.ofChange officeMatchesReferenceSpec)) officeMatchesReferenceCard

/-- THE TIED CARD OF 'regulatorlaw25.OfficeReceipts'. -/
def officeReceiptsCard : Claim7 := { stood := { row := officeReceiptsRow, standIns := [], harness := (true, "4be4bb7a2c29d7c32627abf3504aacc108cec02485752debd9f5cdcf2e03142a"), looks := false }, kinds := [], alts := [], laidByText := true, laidKinds := [.data, .data, .data], laidTests := true, laidLooks := .later }
def OfficeReceiptsCardSaid : Prop := Claim7.holds Tryd.pinned (.plain (OpenSpec.ofChange officeReceiptsSpec)) officeReceiptsCard

/-- THE TIED CARD OF 'regulatorlaw25.OfficeOrder'. -/
def officeOrderCard : Claim7 := { stood := { row := officeOrderRow, standIns := [], harness := (true, "4be4bb7a2c29d7c32627abf3504aacc108cec02485752debd9f5cdcf2e03142a"), looks := false }, kinds := [], alts := [], laidByText := true, laidKinds := [.data, .data, .data], laidTests := true, laidLooks := .later }
def OfficeOrderCardSaid : Prop := Claim7.holds Tryd.pinned (.plain (OpenSpec.ofChange officeOrderSpec)) officeOrderCard

/-- THE TIED CARD OF 'regulatorlaw25.OfficeOthers'. -/
def officeOthersCard : Claim7 := { stood := { row := officeOthersRow, standIns := [], harness := (true, "4be4bb7a2c29d7c32627abf3504aacc108cec02485752debd9f5cdcf2e03142a"), looks := false }, kinds := [], alts := [], laidByText := true, laidKinds := [.data, .data, .data], laidTests := true, laidLooks := .later }
def OfficeOthersCardSaid : Prop := Claim7.holds Tryd.pinned (.plain (OpenSpec.ofChange officeOthersSpec)) officeOthersCard

/-- THE TIED CARD OF 'regulatorlaw25.OfficeForged'. -/
def officeForgedCard : Claim7 := { stood := { row := officeForgedRow, standIns := [], harness := (true, "4be4bb7a2c29d7c32627abf3504aacc108cec02485752debd9f5cdcf2e03142a"), looks := false }, kinds := [], alts := [], laidByText := true, laidKinds := [.data, .data, .data], laidTests := true, laidLooks := .later }
def OfficeForgedCardSaid : Prop := Claim7.holds Tryd.pinned (.plain (OpenSpec.ofChange officeForgedSpec)) officeForgedCard

/-- THE TIED CARD OF 'regulatorlaw25.OfficeGrows'. -/
def officeGrowsCard : Claim7 := { stood := { row := officeGrowsRow, standIns := [], harness := (true, "4be4bb7a2c29d7c32627abf3504aacc108cec02485752debd9f5cdcf2e03142a"), looks := false }, kinds := [], alts := [], laidByText := true, laidKinds := [.data, .data, .data], laidTests := true, laidLooks := .later }
def OfficeGrowsCardSaid : Prop := Claim7.holds Tryd.pinned (.plain (OpenSpec.ofChange officeGrowsSpec)) officeGrowsCard

/-- THE SECOND FORM's CARD OF 'regulatorlaw25.OfficeMatchesReference'. -/
def officeMatchesReferenceUptoCard : Claim7 := { stood := { row := officeMatchesReferenceUptoRow, standIns := [], harness := (true, "4be4bb7a2c29d7c32627abf3504aacc108cec02485752debd9f5cdcf2e03142a"), looks := false }, kinds := [], alts := [], laidByText := true, laidKinds := [.data, .data, .data], laidTests := true, laidLooks := .later }
def OfficeMatchesReferenceUptoCardSaid : Prop := Claim7.holds Tryd.pinned (.plain (OpenSpec.upto officeMatchesReferenceSpec)) officeMatchesReferenceUptoCard

/-- THE SECOND FORM's CARD OF 'regulatorlaw25.OfficeReceipts'. -/
def officeReceiptsUptoCard : Claim7 := { stood := { row := officeReceiptsUptoRow, standIns := [], harness := (true, "4be4bb7a2c29d7c32627abf3504aacc108cec02485752debd9f5cdcf2e03142a"), looks := false }, kinds := [], alts := [], laidByText := true, laidKinds := [.data, .data, .data], laidTests := true, laidLooks := .later }
def OfficeReceiptsUptoCardSaid : Prop := Claim7.holds Tryd.pinned (.plain (OpenSpec.upto officeReceiptsSpec)) officeReceiptsUptoCard

/-- THE SECOND FORM's CARD OF 'regulatorlaw25.OfficeOrder'. -/
def officeOrderUptoCard : Claim7 := { stood := { row := officeOrderUptoRow, standIns := [], harness := (true, "4be4bb7a2c29d7c32627abf3504aacc108cec02485752debd9f5cdcf2e03142a"), looks := false }, kinds := [], alts := [], laidByText := true, laidKinds := [.data, .data, .data], laidTests := true, laidLooks := .later }
def OfficeOrderUptoCardSaid : Prop := Claim7.holds Tryd.pinned (.plain (OpenSpec.upto officeOrderSpec)) officeOrderUptoCard

/-- THE SECOND FORM's CARD OF 'regulatorlaw25.OfficeOthers'. -/
def officeOthersUptoCard : Claim7 := { stood := { row := officeOthersUptoRow, standIns := [], harness := (true, "4be4bb7a2c29d7c32627abf3504aacc108cec02485752debd9f5cdcf2e03142a"), looks := false }, kinds := [], alts := [], laidByText := true, laidKinds := [.data, .data, .data], laidTests := true, laidLooks := .later }
def OfficeOthersUptoCardSaid : Prop := Claim7.holds Tryd.pinned (.plain (OpenSpec.upto officeOthersSpec)) officeOthersUptoCard

/-- THE SECOND FORM's CARD OF 'regulatorlaw25.OfficeForged'. -/
def officeForgedUptoCard : Claim7 := { stood := { row := officeForgedUptoRow, standIns := [], harness := (true, "4be4bb7a2c29d7c32627abf3504aacc108cec02485752debd9f5cdcf2e03142a"), looks := false }, kinds := [], alts := [], laidByText := true, laidKinds := [.data, .data, .data], laidTests := true, laidLooks := .later }
def OfficeForgedUptoCardSaid : Prop := Claim7.holds Tryd.pinned (.plain (OpenSpec.upto officeForgedSpec)) officeForgedUptoCard

/-- THE SECOND FORM's CARD OF 'regulatorlaw25.OfficeGrows'. -/
def officeGrowsUptoCard : Claim7 := { stood := { row := officeGrowsUptoRow, standIns := [], harness := (true, "4be4bb7a2c29d7c32627abf3504aacc108cec02485752debd9f5cdcf2e03142a"), looks := false }, kinds := [], alts := [], laidByText := true, laidKinds := [.data, .data, .data], laidTests := true, laidLooks := .later }
def OfficeGrowsUptoCardSaid : Prop := Claim7.holds Tryd.pinned (.plain (OpenSpec.upto officeGrowsSpec)) officeGrowsUptoCard
end Rows
end Go.Proofs.YtmfjcachghboiaaDoor
