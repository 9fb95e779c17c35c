/-
  No cell of these rows narrows 'for every input' (looked for: loops, veiled, ifaces, maps, wideKeys, modest, calm, conditions, laid).
  DERIVED. THE GIVEN ROWS OF THIS SEAT. 8 by the template 'for every input the law returns true; each argument reads behind the call as it read before'; 0 by the template 'total and deterministic' (their statements: YtficjpfhakggmaaTotals.lean).
  GIVEN WITH THE SEED: the statements are not yours to turn. If you find one false, say at which input.
  Laid BY PROGRAM, IN A SANDBOX (cutbox-rows.mjs): the forced cells as the released guide's own fill.sh prints them over the translation e554274f339c2f5b… (all of the seat's roots in one cut). By AI agents, Wed Nov 11 2026. No macro, syntax, notation, axiom, sorry.
-/
import Derived.Test.YtficjpfhakggmaaChecked
import GoSem.Claim
import GoSem.ClaimJoined
import GoSem.ClaimMapViews
import Derived.JoinedTies
import Derived.KernelRfl
namespace Go.Proofs.Ytficjpfhakggmaa
/- THE CELL 'sum', in the pinned program and in every row, IS THE sha256 OF THE DUMP (.gsa) THAT YtficjpfhakggmaaProg.lean LOADS. Nothing in Lean hashes anything: it is a label: what it is worth is what the hold of that sum in a sandbox is worth. -/
noncomputable def Try.pinned : Pinned := { name := "ytficjpfhakggmaa", sum := "e554274f339c2f5b568dfa3b7fb8283bd7a58b2dd2b81b984af4fca39115337e", checked := Try.checked }
namespace Rows
def none {H : Type} : Left H := { results := [], args := [] }

/-- 'regulatorlaw34.CommitMatchesReference': WHATEVER THE INPUT: true; the input reads as it did. -/
def commitMatchesReferenceSpec : ChangeSpec := { name := "commitMatchesReference", fn := fun _ => fun
  | [d1, d2, d3, d4, d5] => { results := [.lit (.bool true)], args := [d1, d2, d3, d4, d5] }
  | _ => none }
def commitMatchesReferenceRow : OpenClaim := { program := "ytficjpfhakggmaa", sum := "e554274f339c2f5b568dfa3b7fb8283bd7a58b2dd2b81b984af4fca39115337e", func := "regulator/regulatorlaw34.CommitMatchesReference", spec := "commitMatchesReference", inPlace := ["slices.overlaps[regulator/api.Version]"], unfollowed := true, recurses := true, apart := false }
def CommitMatchesReferenceSaid : Prop := commitMatchesReferenceRow.holds Try.pinned (OpenSpec.ofChange commitMatchesReferenceSpec)

/-- ITS FALSE NEIGHBOUR: 'it returns false'. Refute it at one input. -/
def commitMatchesReferenceWrong : ChangeSpec := { name := "commitMatchesReference", fn := fun _ => fun
  | [d1, d2, d3, d4, d5] => { results := [.lit (.bool false)], args := [d1, d2, d3, d4, d5] }
  | _ => none }
def CommitMatchesReferenceWrongFalsely : Prop := commitMatchesReferenceRow.holds Try.pinned (OpenSpec.ofChange commitMatchesReferenceWrong)

/-- 'regulatorlaw34.CommitRises': WHATEVER THE INPUT: true; the input reads as it did. -/
def commitRisesSpec : ChangeSpec := { name := "commitRises", fn := fun _ => fun
  | [d1, d2, d3, d4] => { results := [.lit (.bool true)], args := [d1, d2, d3, d4] }
  | _ => none }
def commitRisesRow : OpenClaim := { program := "ytficjpfhakggmaa", sum := "e554274f339c2f5b568dfa3b7fb8283bd7a58b2dd2b81b984af4fca39115337e", func := "regulator/regulatorlaw34.CommitRises", spec := "commitRises", inPlace := ["slices.overlaps[regulator/api.Version]"], unfollowed := true, recurses := true, apart := false }
def CommitRisesSaid : Prop := commitRisesRow.holds Try.pinned (OpenSpec.ofChange commitRisesSpec)

/-- ITS FALSE NEIGHBOUR: 'it returns false'. Refute it at one input. -/
def commitRisesWrong : ChangeSpec := { name := "commitRises", fn := fun _ => fun
  | [d1, d2, d3, d4] => { results := [.lit (.bool false)], args := [d1, d2, d3, d4] }
  | _ => none }
def CommitRisesWrongFalsely : Prop := commitRisesRow.holds Try.pinned (OpenSpec.ofChange commitRisesWrong)

/-- 'regulatorlaw34.CommitExternal': WHATEVER THE INPUT: true; the input reads as it did. -/
def commitExternalSpec : ChangeSpec := { name := "commitExternal", fn := fun _ => fun
  | [d1, d2, d3, d4, d5, d6, d7] => { results := [.lit (.bool true)], args := [d1, d2, d3, d4, d5, d6, d7] }
  | _ => none }
def commitExternalRow : OpenClaim := { program := "ytficjpfhakggmaa", sum := "e554274f339c2f5b568dfa3b7fb8283bd7a58b2dd2b81b984af4fca39115337e", func := "regulator/regulatorlaw34.CommitExternal", spec := "commitExternal", inPlace := ["slices.overlaps[regulator/api.Version]"], unfollowed := true, recurses := true, apart := false }
def CommitExternalSaid : Prop := commitExternalRow.holds Try.pinned (OpenSpec.ofChange commitExternalSpec)

/-- ITS FALSE NEIGHBOUR: 'it returns false'. Refute it at one input. -/
def commitExternalWrong : ChangeSpec := { name := "commitExternal", fn := fun _ => fun
  | [d1, d2, d3, d4, d5, d6, d7] => { results := [.lit (.bool false)], args := [d1, d2, d3, d4, d5, d6, d7] }
  | _ => none }
def CommitExternalWrongFalsely : Prop := commitExternalRow.holds Try.pinned (OpenSpec.ofChange commitExternalWrong)

/-- 'regulatorlaw34.CommitStable': WHATEVER THE INPUT: true; the input reads as it did. -/
def commitStableSpec : ChangeSpec := { name := "commitStable", fn := fun _ => fun
  | [d1, d2, d3, d4, d5, d6, d7, d8] => { results := [.lit (.bool true)], args := [d1, d2, d3, d4, d5, d6, d7, d8] }
  | _ => none }
def commitStableRow : OpenClaim := { program := "ytficjpfhakggmaa", sum := "e554274f339c2f5b568dfa3b7fb8283bd7a58b2dd2b81b984af4fca39115337e", func := "regulator/regulatorlaw34.CommitStable", spec := "commitStable", inPlace := ["slices.overlaps[regulator/api.Version]"], unfollowed := true, recurses := true, apart := false }
def CommitStableSaid : Prop := commitStableRow.holds Try.pinned (OpenSpec.ofChange commitStableSpec)

/-- ITS FALSE NEIGHBOUR: 'it returns false'. Refute it at one input. -/
def commitStableWrong : ChangeSpec := { name := "commitStable", fn := fun _ => fun
  | [d1, d2, d3, d4, d5, d6, d7, d8] => { results := [.lit (.bool false)], args := [d1, d2, d3, d4, d5, d6, d7, d8] }
  | _ => none }
def CommitStableWrongFalsely : Prop := commitStableRow.holds Try.pinned (OpenSpec.ofChange commitStableWrong)

/-- 'regulatorlaw34.CommitReads': WHATEVER THE INPUT: true; the input reads as it did. -/
def commitReadsSpec : ChangeSpec := { name := "commitReads", fn := fun _ => fun
  | [d1, d2, d3, d4, d5] => { results := [.lit (.bool true)], args := [d1, d2, d3, d4, d5] }
  | _ => none }
def commitReadsRow : OpenClaim := { program := "ytficjpfhakggmaa", sum := "e554274f339c2f5b568dfa3b7fb8283bd7a58b2dd2b81b984af4fca39115337e", func := "regulator/regulatorlaw34.CommitReads", spec := "commitReads", inPlace := ["slices.overlaps[regulator/api.Version]"], unfollowed := true, recurses := true, apart := false }
def CommitReadsSaid : Prop := commitReadsRow.holds Try.pinned (OpenSpec.ofChange commitReadsSpec)

/-- ITS FALSE NEIGHBOUR: 'it returns false'. Refute it at one input. -/
def commitReadsWrong : ChangeSpec := { name := "commitReads", fn := fun _ => fun
  | [d1, d2, d3, d4, d5] => { results := [.lit (.bool false)], args := [d1, d2, d3, d4, d5] }
  | _ => none }
def CommitReadsWrongFalsely : Prop := commitReadsRow.holds Try.pinned (OpenSpec.ofChange commitReadsWrong)

/-- 'regulatorlaw34.CommitConflicts': WHATEVER THE INPUT: true; the input reads as it did. -/
def commitConflictsSpec : ChangeSpec := { name := "commitConflicts", fn := fun _ => fun
  | [d1, d2, d3, d4] => { results := [.lit (.bool true)], args := [d1, d2, d3, d4] }
  | _ => none }
def commitConflictsRow : OpenClaim := { program := "ytficjpfhakggmaa", sum := "e554274f339c2f5b568dfa3b7fb8283bd7a58b2dd2b81b984af4fca39115337e", func := "regulator/regulatorlaw34.CommitConflicts", spec := "commitConflicts", inPlace := ["slices.overlaps[regulator/api.Version]"], unfollowed := true, recurses := true, apart := false }
def CommitConflictsSaid : Prop := commitConflictsRow.holds Try.pinned (OpenSpec.ofChange commitConflictsSpec)

/-- ITS FALSE NEIGHBOUR: 'it returns false'. Refute it at one input. -/
def commitConflictsWrong : ChangeSpec := { name := "commitConflicts", fn := fun _ => fun
  | [d1, d2, d3, d4] => { results := [.lit (.bool false)], args := [d1, d2, d3, d4] }
  | _ => none }
def CommitConflictsWrongFalsely : Prop := commitConflictsRow.holds Try.pinned (OpenSpec.ofChange commitConflictsWrong)

/-- 'regulatorlaw34.CommitWaits': WHATEVER THE INPUT: true; the input reads as it did. -/
def commitWaitsSpec : ChangeSpec := { name := "commitWaits", fn := fun _ => fun
  | [d1, d2, d3] => { results := [.lit (.bool true)], args := [d1, d2, d3] }
  | _ => none }
def commitWaitsRow : OpenClaim := { program := "ytficjpfhakggmaa", sum := "e554274f339c2f5b568dfa3b7fb8283bd7a58b2dd2b81b984af4fca39115337e", func := "regulator/regulatorlaw34.CommitWaits", spec := "commitWaits", inPlace := ["slices.overlaps[regulator/api.Version]"], unfollowed := true, recurses := true, apart := false }
def CommitWaitsSaid : Prop := commitWaitsRow.holds Try.pinned (OpenSpec.ofChange commitWaitsSpec)

/-- ITS FALSE NEIGHBOUR: 'it returns false'. Refute it at one input. -/
def commitWaitsWrong : ChangeSpec := { name := "commitWaits", fn := fun _ => fun
  | [d1, d2, d3] => { results := [.lit (.bool false)], args := [d1, d2, d3] }
  | _ => none }
def CommitWaitsWrongFalsely : Prop := commitWaitsRow.holds Try.pinned (OpenSpec.ofChange commitWaitsWrong)

/-- 'regulatorlaw36.ReclaimMatchesReference': WHATEVER THE INPUT: true; the input reads as it did. -/
def reclaimMatchesReferenceSpec : ChangeSpec := { name := "reclaimMatchesReference", fn := fun _ => fun
  | [d1, d2, d3, d4, d5] => { results := [.lit (.bool true)], args := [d1, d2, d3, d4, d5] }
  | _ => none }
def reclaimMatchesReferenceRow : OpenClaim := { program := "ytficjpfhakggmaa", sum := "e554274f339c2f5b568dfa3b7fb8283bd7a58b2dd2b81b984af4fca39115337e", func := "regulator/regulatorlaw36.ReclaimMatchesReference", spec := "reclaimMatchesReference", unfollowed := true, recurses := true, apart := false }
def ReclaimMatchesReferenceSaid : Prop := reclaimMatchesReferenceRow.holds Try.pinned (OpenSpec.ofChange reclaimMatchesReferenceSpec)

/-- ITS FALSE NEIGHBOUR: 'it returns false'. Refute it at one input. -/
def reclaimMatchesReferenceWrong : ChangeSpec := { name := "reclaimMatchesReference", fn := fun _ => fun
  | [d1, d2, d3, d4, d5] => { results := [.lit (.bool false)], args := [d1, d2, d3, d4, d5] }
  | _ => none }
def ReclaimMatchesReferenceWrongFalsely : Prop := reclaimMatchesReferenceRow.holds Try.pinned (OpenSpec.ofChange reclaimMatchesReferenceWrong)

/- THE SECOND FORM. 'bulk': how many values and letters a reading holds, each counted each time it is reached (what is shared counts as often as it is met; a slice's spare places count too). A statement '..UptoSaid' is the law's where the arguments, and the package variables that the reading takes, are together of bulk at most 1048576: NARROWER than '..Said'. Prove '..Said' where nothing that the law and all that it calls make is longer than what came in: it says more and counts as full. Else prove '..UptoSaid'. A law counts once. -/
mutual
def uptoBulk {H : Type} : DataW H → Nat
  | .lit (.string bytes) => bytes.length + 1
  | .lit _ => 1
  | .nil => 1
  | .ptr d => uptoBulk d + 1
  | .slice elems spare => uptoBulkAll elems + uptoBulkAll spare + 1
  | .agg parts => uptoBulkAll parts + 1
  | .iface _ d => uptoBulk d + 1
  | .map entries => uptoBulkEntries entries + 1
  | .held _ => 1
def uptoBulkAll {H : Type} : List (DataW H) → Nat
  | [] => 0
  | d :: r => uptoBulk d + uptoBulkAll r
def uptoBulkEntries {H : Type} : List (Lit × DataW H) → Nat
  | [] => 0
  | x :: r => uptoBulkEntry x + uptoBulkEntries r
def uptoBulkEntry {H : Type} : Lit × DataW H → Nat
  | (.string bytes, d) => bytes.length + uptoBulk d + 1
  | (_, d) => uptoBulk d + 1
 end
def uptoSmall : (H : Type) → List (DataW H) → Bool := fun _ ds => decide (uptoBulkAll ds ≤ 1048576)
def OpenSpec.upto (s : _root_.Go.ChangeSpec) : _root_.Go.OpenSpec := { _root_.Go.OpenSpec.ofChange s with cond := some uptoSmall }

/-- 'regulatorlaw34.CommitMatchesReference', WHERE WHAT IT READS IS OF BULK AT MOST 1048576: true; the input reads as it did. -/
def commitMatchesReferenceUptoRow : OpenClaim := { program := "ytficjpfhakggmaa", sum := "e554274f339c2f5b568dfa3b7fb8283bd7a58b2dd2b81b984af4fca39115337e", func := "regulator/regulatorlaw34.CommitMatchesReference", spec := "commitMatchesReference", inPlace := ["slices.overlaps[regulator/api.Version]"], unfollowed := true, recurses := true, apart := false, narrowed := true }
def CommitMatchesReferenceUptoSaid : Prop := commitMatchesReferenceUptoRow.holds Try.pinned (OpenSpec.upto commitMatchesReferenceSpec)

/-- 'regulatorlaw34.CommitRises', WHERE WHAT IT READS IS OF BULK AT MOST 1048576: true; the input reads as it did. -/
def commitRisesUptoRow : OpenClaim := { program := "ytficjpfhakggmaa", sum := "e554274f339c2f5b568dfa3b7fb8283bd7a58b2dd2b81b984af4fca39115337e", func := "regulator/regulatorlaw34.CommitRises", spec := "commitRises", inPlace := ["slices.overlaps[regulator/api.Version]"], unfollowed := true, recurses := true, apart := false, narrowed := true }
def CommitRisesUptoSaid : Prop := commitRisesUptoRow.holds Try.pinned (OpenSpec.upto commitRisesSpec)

/-- 'regulatorlaw34.CommitExternal', WHERE WHAT IT READS IS OF BULK AT MOST 1048576: true; the input reads as it did. -/
def commitExternalUptoRow : OpenClaim := { program := "ytficjpfhakggmaa", sum := "e554274f339c2f5b568dfa3b7fb8283bd7a58b2dd2b81b984af4fca39115337e", func := "regulator/regulatorlaw34.CommitExternal", spec := "commitExternal", inPlace := ["slices.overlaps[regulator/api.Version]"], unfollowed := true, recurses := true, apart := false, narrowed := true }
def CommitExternalUptoSaid : Prop := commitExternalUptoRow.holds Try.pinned (OpenSpec.upto commitExternalSpec)

/-- 'regulatorlaw34.CommitStable', WHERE WHAT IT READS IS OF BULK AT MOST 1048576: true; the input reads as it did. -/
def commitStableUptoRow : OpenClaim := { program := "ytficjpfhakggmaa", sum := "e554274f339c2f5b568dfa3b7fb8283bd7a58b2dd2b81b984af4fca39115337e", func := "regulator/regulatorlaw34.CommitStable", spec := "commitStable", inPlace := ["slices.overlaps[regulator/api.Version]"], unfollowed := true, recurses := true, apart := false, narrowed := true }
def CommitStableUptoSaid : Prop := commitStableUptoRow.holds Try.pinned (OpenSpec.upto commitStableSpec)

/-- 'regulatorlaw34.CommitReads', WHERE WHAT IT READS IS OF BULK AT MOST 1048576: true; the input reads as it did. -/
def commitReadsUptoRow : OpenClaim := { program := "ytficjpfhakggmaa", sum := "e554274f339c2f5b568dfa3b7fb8283bd7a58b2dd2b81b984af4fca39115337e", func := "regulator/regulatorlaw34.CommitReads", spec := "commitReads", inPlace := ["slices.overlaps[regulator/api.Version]"], unfollowed := true, recurses := true, apart := false, narrowed := true }
def CommitReadsUptoSaid : Prop := commitReadsUptoRow.holds Try.pinned (OpenSpec.upto commitReadsSpec)

/-- 'regulatorlaw34.CommitConflicts', WHERE WHAT IT READS IS OF BULK AT MOST 1048576: true; the input reads as it did. -/
def commitConflictsUptoRow : OpenClaim := { program := "ytficjpfhakggmaa", sum := "e554274f339c2f5b568dfa3b7fb8283bd7a58b2dd2b81b984af4fca39115337e", func := "regulator/regulatorlaw34.CommitConflicts", spec := "commitConflicts", inPlace := ["slices.overlaps[regulator/api.Version]"], unfollowed := true, recurses := true, apart := false, narrowed := true }
def CommitConflictsUptoSaid : Prop := commitConflictsUptoRow.holds Try.pinned (OpenSpec.upto commitConflictsSpec)

/-- 'regulatorlaw34.CommitWaits', WHERE WHAT IT READS IS OF BULK AT MOST 1048576: true; the input reads as it did. -/
def commitWaitsUptoRow : OpenClaim := { program := "ytficjpfhakggmaa", sum := "e554274f339c2f5b568dfa3b7fb8283bd7a58b2dd2b81b984af4fca39115337e", func := "regulator/regulatorlaw34.CommitWaits", spec := "commitWaits", inPlace := ["slices.overlaps[regulator/api.Version]"], unfollowed := true, recurses := true, apart := false, narrowed := true }
def CommitWaitsUptoSaid : Prop := commitWaitsUptoRow.holds Try.pinned (OpenSpec.upto commitWaitsSpec)

/-- 'regulatorlaw36.ReclaimMatchesReference', WHERE WHAT IT READS IS OF BULK AT MOST 1048576: true; the input reads as it did. -/
def reclaimMatchesReferenceUptoRow : OpenClaim := { program := "ytficjpfhakggmaa", sum := "e554274f339c2f5b568dfa3b7fb8283bd7a58b2dd2b81b984af4fca39115337e", func := "regulator/regulatorlaw36.ReclaimMatchesReference", spec := "reclaimMatchesReference", unfollowed := true, recurses := true, apart := false, narrowed := true }
def ReclaimMatchesReferenceUptoSaid : Prop := reclaimMatchesReferenceUptoRow.holds Try.pinned (OpenSpec.upto reclaimMatchesReferenceSpec)

end Rows
end Go.Proofs.Ytficjpfhakggmaa
