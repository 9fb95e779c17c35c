/-
  No cell of these rows narrows 'for every input' (looked for: loops, veiled, ifaces, maps, wideKeys, modest, calm, conditions, laid).
  DERIVED. THE GIVEN ROWS OF THIS SEAT. 7 by the template 'for every input the law returns true; each argument reads behind the call as it read before'; 0 by the template 'total and deterministic' (their statements: YtkchfmhgboiimaaGreatTotals.lean).
  GIVEN WITH THE SEED: the statements are not yours to turn. If you find one false, say at which input.
  Laid BY PROGRAM, IN A SANDBOX (cutbox-rows.mjs): the forced cells as the released guide's own fill.sh prints them over the translation e68de566a4a44ea0… (all of the seat's roots in one cut). By AI agents, Wed Nov 11 2026. No macro, syntax, notation, axiom, sorry.
-/
import Derived.Test.YtkchfmhgboiimaaGreatChecked
import GoSem.Claim
import GoSem.ClaimJoined
import GoSem.ClaimMapViews
import Derived.JoinedTies
import Derived.KernelRfl
namespace Go.Proofs.YtkchfmhgboiimaaGreat
/- THE CELL 'sum', in the pinned program and in every row, IS THE sha256 OF THE DUMP (.gsa) THAT YtkchfmhgboiimaaGreatProg.lean LOADS. Nothing in Lean hashes anything: it is a label: what it is worth is what the hold of that sum in a sandbox is worth. -/
noncomputable def Tryz.pinned : Pinned := { name := "ytkchfmhgboiimaagreat", sum := "e68de566a4a44ea034103dfacf4f5b4edf71a88f56e21a1d71e6eb29d9194bd9", checked := Tryz.checked }
namespace Rows
def none {H : Type} : Left H := { results := [], args := [] }

/-- 'regulatorlaw38.CopiesMatchesReference': WHATEVER THE INPUT: true; the input reads as it did. -/
def copiesMatchesReferenceSpec : ChangeSpec := { name := "copiesMatchesReference", fn := fun _ => fun
  | [d1, d2, d3, d4, d5, d6] => { results := [.lit (.bool true)], args := [d1, d2, d3, d4, d5, d6] }
  | _ => none }
def copiesMatchesReferenceRow : OpenClaim := { program := "ytkchfmhgboiimaagreat", sum := "e68de566a4a44ea034103dfacf4f5b4edf71a88f56e21a1d71e6eb29d9194bd9", func := "regulator/regulatorlaw38.CopiesMatchesReference", spec := "copiesMatchesReference", inPlace := ["slices.overlaps[regulator/api.Version]"], unfollowed := true, recurses := true, apart := false }
def CopiesMatchesReferenceSaid : Prop := copiesMatchesReferenceRow.holds Tryz.pinned (OpenSpec.ofChange copiesMatchesReferenceSpec)

/-- ITS FALSE NEIGHBOUR: 'it returns false'. Refute it at one input. -/
def copiesMatchesReferenceWrong : ChangeSpec := { name := "copiesMatchesReference", fn := fun _ => fun
  | [d1, d2, d3, d4, d5, d6] => { results := [.lit (.bool false)], args := [d1, d2, d3, d4, d5, d6] }
  | _ => none }
def CopiesMatchesReferenceWrongFalsely : Prop := copiesMatchesReferenceRow.holds Tryz.pinned (OpenSpec.ofChange copiesMatchesReferenceWrong)

/-- 'regulatorlaw38.CopiesShip': WHATEVER THE INPUT: true; the input reads as it did. -/
def copiesShipSpec : ChangeSpec := { name := "copiesShip", fn := fun _ => fun
  | [d1, d2, d3, d4] => { results := [.lit (.bool true)], args := [d1, d2, d3, d4] }
  | _ => none }
def copiesShipRow : OpenClaim := { program := "ytkchfmhgboiimaagreat", sum := "e68de566a4a44ea034103dfacf4f5b4edf71a88f56e21a1d71e6eb29d9194bd9", func := "regulator/regulatorlaw38.CopiesShip", spec := "copiesShip", inPlace := ["slices.overlaps[regulator/api.Version]"], unfollowed := true, recurses := true, apart := false }
def CopiesShipSaid : Prop := copiesShipRow.holds Tryz.pinned (OpenSpec.ofChange copiesShipSpec)

/-- ITS FALSE NEIGHBOUR: 'it returns false'. Refute it at one input. -/
def copiesShipWrong : ChangeSpec := { name := "copiesShip", fn := fun _ => fun
  | [d1, d2, d3, d4] => { results := [.lit (.bool false)], args := [d1, d2, d3, d4] }
  | _ => none }
def CopiesShipWrongFalsely : Prop := copiesShipRow.holds Tryz.pinned (OpenSpec.ofChange copiesShipWrong)

/-- 'regulatorlaw38.CopiesSafe': WHATEVER THE INPUT: true; the input reads as it did. -/
def copiesSafeSpec : ChangeSpec := { name := "copiesSafe", fn := fun _ => fun
  | [d1, d2, d3, d4] => { results := [.lit (.bool true)], args := [d1, d2, d3, d4] }
  | _ => none }
def copiesSafeRow : OpenClaim := { program := "ytkchfmhgboiimaagreat", sum := "e68de566a4a44ea034103dfacf4f5b4edf71a88f56e21a1d71e6eb29d9194bd9", func := "regulator/regulatorlaw38.CopiesSafe", spec := "copiesSafe", inPlace := ["slices.overlaps[regulator/api.Version]"], unfollowed := true, recurses := true, apart := false }
def CopiesSafeSaid : Prop := copiesSafeRow.holds Tryz.pinned (OpenSpec.ofChange copiesSafeSpec)

/-- ITS FALSE NEIGHBOUR: 'it returns false'. Refute it at one input. -/
def copiesSafeWrong : ChangeSpec := { name := "copiesSafe", fn := fun _ => fun
  | [d1, d2, d3, d4] => { results := [.lit (.bool false)], args := [d1, d2, d3, d4] }
  | _ => none }
def CopiesSafeWrongFalsely : Prop := copiesSafeRow.holds Tryz.pinned (OpenSpec.ofChange copiesSafeWrong)

/-- 'regulatorlaw38.CopiesElect': WHATEVER THE INPUT: true; the input reads as it did. -/
def copiesElectSpec : ChangeSpec := { name := "copiesElect", fn := fun _ => fun
  | [d1, d2] => { results := [.lit (.bool true)], args := [d1, d2] }
  | _ => none }
def copiesElectRow : OpenClaim := { program := "ytkchfmhgboiimaagreat", sum := "e68de566a4a44ea034103dfacf4f5b4edf71a88f56e21a1d71e6eb29d9194bd9", func := "regulator/regulatorlaw38.CopiesElect", spec := "copiesElect", inPlace := ["slices.overlaps[regulator/api.Version]"], unfollowed := true, recurses := true, apart := false }
def CopiesElectSaid : Prop := copiesElectRow.holds Tryz.pinned (OpenSpec.ofChange copiesElectSpec)

/-- ITS FALSE NEIGHBOUR: 'it returns false'. Refute it at one input. -/
def copiesElectWrong : ChangeSpec := { name := "copiesElect", fn := fun _ => fun
  | [d1, d2] => { results := [.lit (.bool false)], args := [d1, d2] }
  | _ => none }
def CopiesElectWrongFalsely : Prop := copiesElectRow.holds Tryz.pinned (OpenSpec.ofChange copiesElectWrong)

/-- 'regulatorlaw38.CopiesRead': WHATEVER THE INPUT: true; the input reads as it did. -/
def copiesReadSpec : ChangeSpec := { name := "copiesRead", fn := fun _ => fun
  | [d1, d2, d3, d4] => { results := [.lit (.bool true)], args := [d1, d2, d3, d4] }
  | _ => none }
def copiesReadRow : OpenClaim := { program := "ytkchfmhgboiimaagreat", sum := "e68de566a4a44ea034103dfacf4f5b4edf71a88f56e21a1d71e6eb29d9194bd9", func := "regulator/regulatorlaw38.CopiesRead", spec := "copiesRead", inPlace := ["slices.overlaps[regulator/api.Version]"], unfollowed := true, recurses := true, apart := false }
def CopiesReadSaid : Prop := copiesReadRow.holds Tryz.pinned (OpenSpec.ofChange copiesReadSpec)

/-- ITS FALSE NEIGHBOUR: 'it returns false'. Refute it at one input. -/
def copiesReadWrong : ChangeSpec := { name := "copiesRead", fn := fun _ => fun
  | [d1, d2, d3, d4] => { results := [.lit (.bool false)], args := [d1, d2, d3, d4] }
  | _ => none }
def CopiesReadWrongFalsely : Prop := copiesReadRow.holds Tryz.pinned (OpenSpec.ofChange copiesReadWrong)

/-- 'regulatorlaw38.CopiesAlike': WHATEVER THE INPUT: true; the input reads as it did. -/
def copiesAlikeSpec : ChangeSpec := { name := "copiesAlike", fn := fun _ => fun
  | [d1, d2, d3, d4] => { results := [.lit (.bool true)], args := [d1, d2, d3, d4] }
  | _ => none }
def copiesAlikeRow : OpenClaim := { program := "ytkchfmhgboiimaagreat", sum := "e68de566a4a44ea034103dfacf4f5b4edf71a88f56e21a1d71e6eb29d9194bd9", func := "regulator/regulatorlaw38.CopiesAlike", spec := "copiesAlike", inPlace := ["slices.overlaps[regulator/api.Version]"], unfollowed := true, recurses := true, apart := false }
def CopiesAlikeSaid : Prop := copiesAlikeRow.holds Tryz.pinned (OpenSpec.ofChange copiesAlikeSpec)

/-- ITS FALSE NEIGHBOUR: 'it returns false'. Refute it at one input. -/
def copiesAlikeWrong : ChangeSpec := { name := "copiesAlike", fn := fun _ => fun
  | [d1, d2, d3, d4] => { results := [.lit (.bool false)], args := [d1, d2, d3, d4] }
  | _ => none }
def CopiesAlikeWrongFalsely : Prop := copiesAlikeRow.holds Tryz.pinned (OpenSpec.ofChange copiesAlikeWrong)

/-- 'regulatorlaw38.CopiesLater': WHATEVER THE INPUT: true; the input reads as it did. -/
def copiesLaterSpec : ChangeSpec := { name := "copiesLater", fn := fun _ => fun
  | [d1, d2, d3, d4, d5, d6] => { results := [.lit (.bool true)], args := [d1, d2, d3, d4, d5, d6] }
  | _ => none }
def copiesLaterRow : OpenClaim := { program := "ytkchfmhgboiimaagreat", sum := "e68de566a4a44ea034103dfacf4f5b4edf71a88f56e21a1d71e6eb29d9194bd9", func := "regulator/regulatorlaw38.CopiesLater", spec := "copiesLater", inPlace := ["slices.overlaps[regulator/api.Version]"], unfollowed := true, recurses := true, apart := false }
def CopiesLaterSaid : Prop := copiesLaterRow.holds Tryz.pinned (OpenSpec.ofChange copiesLaterSpec)

/-- ITS FALSE NEIGHBOUR: 'it returns false'. Refute it at one input. -/
def copiesLaterWrong : ChangeSpec := { name := "copiesLater", fn := fun _ => fun
  | [d1, d2, d3, d4, d5, d6] => { results := [.lit (.bool false)], args := [d1, d2, d3, d4, d5, d6] }
  | _ => none }
def CopiesLaterWrongFalsely : Prop := copiesLaterRow.holds Tryz.pinned (OpenSpec.ofChange copiesLaterWrong)

/- THE SECOND FORM. 'bulk': how many values and letters a reading holds, each counted each time it is reached (what is shared counts as often as it is met; a slice's spare places count too). A statement '..UptoSaid' is the law's where the arguments, and the package variables that the reading takes, are together of bulk at most 1048576: NARROWER than '..Said'. Prove '..Said' where nothing that the law and all that it calls make is longer than what came in: it says more and counts as full. Else prove '..UptoSaid'. A law counts once. -/
mutual
def uptoBulk {H : Type} : DataW H → Nat
  | .lit (.string bytes) => bytes.length + 1
  | .lit _ => 1
  | .nil => 1
  | .ptr d => uptoBulk d + 1
  | .slice elems spare => uptoBulkAll elems + uptoBulkAll spare + 1
  | .agg parts => uptoBulkAll parts + 1
  | .iface _ d => uptoBulk d + 1
  | .map entries => uptoBulkEntries entries + 1
  | .held _ => 1
def uptoBulkAll {H : Type} : List (DataW H) → Nat
  | [] => 0
  | d :: r => uptoBulk d + uptoBulkAll r
def uptoBulkEntries {H : Type} : List (Lit × DataW H) → Nat
  | [] => 0
  | x :: r => uptoBulkEntry x + uptoBulkEntries r
def uptoBulkEntry {H : Type} : Lit × DataW H → Nat
  | (.string bytes, d) => bytes.length + uptoBulk d + 1
  | (_, d) => uptoBulk d + 1
 end
def uptoSmall : (H : Type) → List (DataW H) → Bool := fun _ ds => decide (uptoBulkAll ds ≤ 1048576)
def OpenSpec.upto (s : _root_.Go.ChangeSpec) : _root_.Go.OpenSpec := { _root_.Go.OpenSpec.ofChange s with cond := some uptoSmall }

/-- 'regulatorlaw38.CopiesMatchesReference', WHERE WHAT IT READS IS OF BULK AT MOST 1048576: true; the input reads as it did. -/
def copiesMatchesReferenceUptoRow : OpenClaim := { program := "ytkchfmhgboiimaagreat", sum := "e68de566a4a44ea034103dfacf4f5b4edf71a88f56e21a1d71e6eb29d9194bd9", func := "regulator/regulatorlaw38.CopiesMatchesReference", spec := "copiesMatchesReference", inPlace := ["slices.overlaps[regulator/api.Version]"], unfollowed := true, recurses := true, apart := false, narrowed := true }
def CopiesMatchesReferenceUptoSaid : Prop := copiesMatchesReferenceUptoRow.holds Tryz.pinned (OpenSpec.upto copiesMatchesReferenceSpec)

/-- 'regulatorlaw38.CopiesShip', WHERE WHAT IT READS IS OF BULK AT MOST 1048576: true; the input reads as it did. -/
def copiesShipUptoRow : OpenClaim := { program := "ytkchfmhgboiimaagreat", sum := "e68de566a4a44ea034103dfacf4f5b4edf71a88f56e21a1d71e6eb29d9194bd9", func := "regulator/regulatorlaw38.CopiesShip", spec := "copiesShip", inPlace := ["slices.overlaps[regulator/api.Version]"], unfollowed := true, recurses := true, apart := false, narrowed := true }
def CopiesShipUptoSaid : Prop := copiesShipUptoRow.holds Tryz.pinned (OpenSpec.upto copiesShipSpec)

/-- 'regulatorlaw38.CopiesSafe', WHERE WHAT IT READS IS OF BULK AT MOST 1048576: true; the input reads as it did. -/
def copiesSafeUptoRow : OpenClaim := { program := "ytkchfmhgboiimaagreat", sum := "e68de566a4a44ea034103dfacf4f5b4edf71a88f56e21a1d71e6eb29d9194bd9", func := "regulator/regulatorlaw38.CopiesSafe", spec := "copiesSafe", inPlace := ["slices.overlaps[regulator/api.Version]"], unfollowed := true, recurses := true, apart := false, narrowed := true }
def CopiesSafeUptoSaid : Prop := copiesSafeUptoRow.holds Tryz.pinned (OpenSpec.upto copiesSafeSpec)

/-- 'regulatorlaw38.CopiesElect', WHERE WHAT IT READS IS OF BULK AT MOST 1048576: true; the input reads as it did. -/
def copiesElectUptoRow : OpenClaim := { program := "ytkchfmhgboiimaagreat", sum := "e68de566a4a44ea034103dfacf4f5b4edf71a88f56e21a1d71e6eb29d9194bd9", func := "regulator/regulatorlaw38.CopiesElect", spec := "copiesElect", inPlace := ["slices.overlaps[regulator/api.Version]"], unfollowed := true, recurses := true, apart := false, narrowed := true }
def CopiesElectUptoSaid : Prop := copiesElectUptoRow.holds Tryz.pinned (OpenSpec.upto copiesElectSpec)

/-- 'regulatorlaw38.CopiesRead', WHERE WHAT IT READS IS OF BULK AT MOST 1048576: true; the input reads as it did. -/
def copiesReadUptoRow : OpenClaim := { program := "ytkchfmhgboiimaagreat", sum := "e68de566a4a44ea034103dfacf4f5b4edf71a88f56e21a1d71e6eb29d9194bd9", func := "regulator/regulatorlaw38.CopiesRead", spec := "copiesRead", inPlace := ["slices.overlaps[regulator/api.Version]"], unfollowed := true, recurses := true, apart := false, narrowed := true }
def CopiesReadUptoSaid : Prop := copiesReadUptoRow.holds Tryz.pinned (OpenSpec.upto copiesReadSpec)

/-- 'regulatorlaw38.CopiesAlike', WHERE WHAT IT READS IS OF BULK AT MOST 1048576: true; the input reads as it did. -/
def copiesAlikeUptoRow : OpenClaim := { program := "ytkchfmhgboiimaagreat", sum := "e68de566a4a44ea034103dfacf4f5b4edf71a88f56e21a1d71e6eb29d9194bd9", func := "regulator/regulatorlaw38.CopiesAlike", spec := "copiesAlike", inPlace := ["slices.overlaps[regulator/api.Version]"], unfollowed := true, recurses := true, apart := false, narrowed := true }
def CopiesAlikeUptoSaid : Prop := copiesAlikeUptoRow.holds Tryz.pinned (OpenSpec.upto copiesAlikeSpec)

/-- 'regulatorlaw38.CopiesLater', WHERE WHAT IT READS IS OF BULK AT MOST 1048576: true; the input reads as it did. -/
def copiesLaterUptoRow : OpenClaim := { program := "ytkchfmhgboiimaagreat", sum := "e68de566a4a44ea034103dfacf4f5b4edf71a88f56e21a1d71e6eb29d9194bd9", func := "regulator/regulatorlaw38.CopiesLater", spec := "copiesLater", inPlace := ["slices.overlaps[regulator/api.Version]"], unfollowed := true, recurses := true, apart := false, narrowed := true }
def CopiesLaterUptoSaid : Prop := copiesLaterUptoRow.holds Tryz.pinned (OpenSpec.upto copiesLaterSpec)

end Rows
end Go.Proofs.YtkchfmhgboiimaaGreat
