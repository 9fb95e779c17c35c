/-
  DERIVED. GIVEN WITH THE SEED: THE CARDS: each row of YtijnjgjpmgmifaaDoorRows.lean that lists a variable, with what it lists TIED to the program's text (the seventh form; the later family's looks); each row that meets fmt, with fmt's text TOLD by the authors' own Lean function (tested against real Go, not proved from fmt's source: count such statements apart). THE CARD IS WHAT COUNTS. Prove the row's statement (the work); the ties are given (YtijnjgjpmgmifaaDoorTie.lean); close each card by the builder's one call (the guide's Derived/Test/ToyasCard.lean, 'card_holds'). Laid BY PROGRAM, IN A SANDBOX (cutbox-door.mjs). By AI agents, Wed Nov 11 2026. No macro, syntax, notation, axiom, sorry.
-/
import Derived.Test.YtijnjgjpmgmifaaDoorRows
import GoSem.ClaimSeven
namespace Go.Proofs.YtijnjgjpmgmifaaDoor
namespace Rows

/-- THE TIED CARD OF 'regulatorlaw24.TreeMatchesReference'. -/
def treeMatchesReferenceCard : Claim7 := { stood := { row := treeMatchesReferenceRow, standIns := [], harness := (true, "1c310a6e117e7a861ae633cf23554c1208c28340099dac029eb8157def2768c3"), looks := false }, kinds := [], alts := [], laidByText := true, laidKinds := [.data, .data, .data], laidTests := true, laidLooks := .later }
def TreeMatchesReferenceCardSaid : Prop := Claim7.holds Tryd.pinned (.plain (OpenSpec.ofChange treeMatchesReferenceSpec)) treeMatchesReferenceCard

/-- THE TIED CARD OF 'regulatorlaw24.TreeShape'. -/
def treeShapeCard : Claim7 := { stood := { row := treeShapeRow, standIns := [], harness := (true, "1c310a6e117e7a861ae633cf23554c1208c28340099dac029eb8157def2768c3"), looks := false }, kinds := [], alts := [], laidByText := true, laidKinds := [.data, .data, .data], laidTests := true, laidLooks := .later }
def TreeShapeCardSaid : Prop := Claim7.holds Tryd.pinned (.plain (OpenSpec.ofChange treeShapeSpec)) treeShapeCard

/-- THE TIED CARD OF 'regulatorlaw24.TreeIncludes'. -/
def treeIncludesCard : Claim7 := { stood := { row := treeIncludesRow, standIns := [], harness := (true, "1c310a6e117e7a861ae633cf23554c1208c28340099dac029eb8157def2768c3"), looks := false }, kinds := [], alts := [], laidByText := true, laidKinds := [.data, .data, .data], laidTests := true, laidLooks := .later }
def TreeIncludesCardSaid : Prop := Claim7.holds Tryd.pinned (.plain (OpenSpec.ofChange treeIncludesSpec)) treeIncludesCard

/-- THE TIED CARD OF 'regulatorlaw24.TreeExtends'. -/
def treeExtendsCard : Claim7 := { stood := { row := treeExtendsRow, standIns := [], harness := (true, "1c310a6e117e7a861ae633cf23554c1208c28340099dac029eb8157def2768c3"), looks := false }, kinds := [], alts := [], laidByText := true, laidKinds := [.data, .data, .data], laidTests := true, laidLooks := .later }
def TreeExtendsCardSaid : Prop := Claim7.holds Tryd.pinned (.plain (OpenSpec.ofChange treeExtendsSpec)) treeExtendsCard

/-- THE TIED CARD OF 'regulatorlaw24.TreeBeginnings'. -/
def treeBeginningsCard : Claim7 := { stood := { row := treeBeginningsRow, standIns := [], harness := (true, "1c310a6e117e7a861ae633cf23554c1208c28340099dac029eb8157def2768c3"), looks := false }, kinds := [], alts := [], laidByText := true, laidKinds := [.data, .data, .data], laidTests := true, laidLooks := .later }
def TreeBeginningsCardSaid : Prop := Claim7.holds Tryd.pinned (.plain (OpenSpec.ofChange treeBeginningsSpec)) treeBeginningsCard

/-- THE TIED CARD OF 'regulatorlaw24.TreeLengths'. -/
def treeLengthsCard : Claim7 := { stood := { row := treeLengthsRow, standIns := [], harness := (true, "1c310a6e117e7a861ae633cf23554c1208c28340099dac029eb8157def2768c3"), looks := false }, kinds := [], alts := [], laidByText := true, laidKinds := [.data, .data, .data], laidTests := true, laidLooks := .later }
def TreeLengthsCardSaid : Prop := Claim7.holds Tryd.pinned (.plain (OpenSpec.ofChange treeLengthsSpec)) treeLengthsCard

/-- THE TIED CARD OF 'regulatorlaw24.TreeOthers'. -/
def treeOthersCard : Claim7 := { stood := { row := treeOthersRow, standIns := [], harness := (true, "1c310a6e117e7a861ae633cf23554c1208c28340099dac029eb8157def2768c3"), looks := false }, kinds := [], alts := [], laidByText := true, laidKinds := [.data, .data, .data], laidTests := true, laidLooks := .later }
def TreeOthersCardSaid : Prop := Claim7.holds Tryd.pinned (.plain (OpenSpec.ofChange treeOthersSpec)) treeOthersCard

/-- THE SECOND FORM's CARD OF 'regulatorlaw24.TreeMatchesReference'. -/
def treeMatchesReferenceUptoCard : Claim7 := { stood := { row := treeMatchesReferenceUptoRow, standIns := [], harness := (true, "1c310a6e117e7a861ae633cf23554c1208c28340099dac029eb8157def2768c3"), looks := false }, kinds := [], alts := [], laidByText := true, laidKinds := [.data, .data, .data], laidTests := true, laidLooks := .later }
def TreeMatchesReferenceUptoCardSaid : Prop := Claim7.holds Tryd.pinned (.plain (OpenSpec.upto treeMatchesReferenceSpec)) treeMatchesReferenceUptoCard

/-- THE SECOND FORM's CARD OF 'regulatorlaw24.TreeShape'. -/
def treeShapeUptoCard : Claim7 := { stood := { row := treeShapeUptoRow, standIns := [], harness := (true, "1c310a6e117e7a861ae633cf23554c1208c28340099dac029eb8157def2768c3"), looks := false }, kinds := [], alts := [], laidByText := true, laidKinds := [.data, .data, .data], laidTests := true, laidLooks := .later }
def TreeShapeUptoCardSaid : Prop := Claim7.holds Tryd.pinned (.plain (OpenSpec.upto treeShapeSpec)) treeShapeUptoCard

/-- THE SECOND FORM's CARD OF 'regulatorlaw24.TreeIncludes'. -/
def treeIncludesUptoCard : Claim7 := { stood := { row := treeIncludesUptoRow, standIns := [], harness := (true, "1c310a6e117e7a861ae633cf23554c1208c28340099dac029eb8157def2768c3"), looks := false }, kinds := [], alts := [], laidByText := true, laidKinds := [.data, .data, .data], laidTests := true, laidLooks := .later }
def TreeIncludesUptoCardSaid : Prop := Claim7.holds Tryd.pinned (.plain (OpenSpec.upto treeIncludesSpec)) treeIncludesUptoCard

/-- THE SECOND FORM's CARD OF 'regulatorlaw24.TreeExtends'. -/
def treeExtendsUptoCard : Claim7 := { stood := { row := treeExtendsUptoRow, standIns := [], harness := (true, "1c310a6e117e7a861ae633cf23554c1208c28340099dac029eb8157def2768c3"), looks := false }, kinds := [], alts := [], laidByText := true, laidKinds := [.data, .data, .data], laidTests := true, laidLooks := .later }
def TreeExtendsUptoCardSaid : Prop := Claim7.holds Tryd.pinned (.plain (OpenSpec.upto treeExtendsSpec)) treeExtendsUptoCard

/-- THE SECOND FORM's CARD OF 'regulatorlaw24.TreeBeginnings'. -/
def treeBeginningsUptoCard : Claim7 := { stood := { row := treeBeginningsUptoRow, standIns := [], harness := (true, "1c310a6e117e7a861ae633cf23554c1208c28340099dac029eb8157def2768c3"), looks := false }, kinds := [], alts := [], laidByText := true, laidKinds := [.data, .data, .data], laidTests := true, laidLooks := .later }
def TreeBeginningsUptoCardSaid : Prop := Claim7.holds Tryd.pinned (.plain (OpenSpec.upto treeBeginningsSpec)) treeBeginningsUptoCard

/-- THE SECOND FORM's CARD OF 'regulatorlaw24.TreeLengths'. -/
def treeLengthsUptoCard : Claim7 := { stood := { row := treeLengthsUptoRow, standIns := [], harness := (true, "1c310a6e117e7a861ae633cf23554c1208c28340099dac029eb8157def2768c3"), looks := false }, kinds := [], alts := [], laidByText := true, laidKinds := [.data, .data, .data], laidTests := true, laidLooks := .later }
def TreeLengthsUptoCardSaid : Prop := Claim7.holds Tryd.pinned (.plain (OpenSpec.upto treeLengthsSpec)) treeLengthsUptoCard

/-- THE SECOND FORM's CARD OF 'regulatorlaw24.TreeOthers'. -/
def treeOthersUptoCard : Claim7 := { stood := { row := treeOthersUptoRow, standIns := [], harness := (true, "1c310a6e117e7a861ae633cf23554c1208c28340099dac029eb8157def2768c3"), looks := false }, kinds := [], alts := [], laidByText := true, laidKinds := [.data, .data, .data], laidTests := true, laidLooks := .later }
def TreeOthersUptoCardSaid : Prop := Claim7.holds Tryd.pinned (.plain (OpenSpec.upto treeOthersSpec)) treeOthersUptoCard
end Rows
end Go.Proofs.YtijnjgjpmgmifaaDoor
