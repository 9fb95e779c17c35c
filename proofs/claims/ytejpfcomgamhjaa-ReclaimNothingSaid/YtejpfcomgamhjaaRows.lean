/-
  No cell of these rows narrows 'for every input' (looked for: loops, veiled, ifaces, maps, wideKeys, modest, calm, conditions, laid).
  DERIVED. THE GIVEN ROWS OF THIS SEAT. 13 by the template 'for every input the law returns true; each argument reads behind the call as it read before'; 0 by the template 'total and deterministic' (their statements: YtejpfcomgamhjaaTotals.lean).
  GIVEN WITH THE SEED: the statements are not yours to turn. If you find one false, say at which input.
  Laid BY PROGRAM, IN A SANDBOX (cutbox-rows.mjs): the forced cells as the released guide's own fill.sh prints them over the translation aaec65bb386045bd… (all of the seat's roots in one cut). By AI agents, Wed Nov 11 2026. No macro, syntax, notation, axiom, sorry.
-/
import Derived.Test.YtejpfcomgamhjaaChecked
import GoSem.Claim
import GoSem.ClaimJoined
import GoSem.ClaimMapViews
import Derived.JoinedTies
import Derived.KernelRfl
namespace Go.Proofs.Ytejpfcomgamhjaa
/- THE CELL 'sum', in the pinned program and in every row, IS THE sha256 OF THE DUMP (.gsa) THAT YtejpfcomgamhjaaProg.lean LOADS. Nothing in Lean hashes anything: it is a label: what it is worth is what the hold of that sum in a sandbox is worth. -/
noncomputable def Try.pinned : Pinned := { name := "ytejpfcomgamhjaa", sum := "aaec65bb386045bda242e9b1f11c9186692f949c83e41bc1bb1120b01c93f53d", checked := Try.checked }
namespace Rows
def none {H : Type} : Left H := { results := [], args := [] }

/-- 'regulatorlaw36.ReclaimMatchesReference': WHATEVER THE INPUT: true; the input reads as it did. -/
def reclaimMatchesReferenceSpec : ChangeSpec := { name := "reclaimMatchesReference", fn := fun _ => fun
  | [d1, d2, d3, d4, d5] => { results := [.lit (.bool true)], args := [d1, d2, d3, d4, d5] }
  | _ => none }
def reclaimMatchesReferenceRow : OpenClaim := { program := "ytejpfcomgamhjaa", sum := "aaec65bb386045bda242e9b1f11c9186692f949c83e41bc1bb1120b01c93f53d", func := "regulator/regulatorlaw36.ReclaimMatchesReference", spec := "reclaimMatchesReference", unfollowed := true, recurses := true, apart := false }
def ReclaimMatchesReferenceSaid : Prop := reclaimMatchesReferenceRow.holds Try.pinned (OpenSpec.ofChange reclaimMatchesReferenceSpec)

/-- ITS FALSE NEIGHBOUR: 'it returns false'. Refute it at one input. -/
def reclaimMatchesReferenceWrong : ChangeSpec := { name := "reclaimMatchesReference", fn := fun _ => fun
  | [d1, d2, d3, d4, d5] => { results := [.lit (.bool false)], args := [d1, d2, d3, d4, d5] }
  | _ => none }
def ReclaimMatchesReferenceWrongFalsely : Prop := reclaimMatchesReferenceRow.holds Try.pinned (OpenSpec.ofChange reclaimMatchesReferenceWrong)

/-- 'regulatorlaw36.ReclaimReads': WHATEVER THE INPUT: true; the input reads as it did. -/
def reclaimReadsSpec : ChangeSpec := { name := "reclaimReads", fn := fun _ => fun
  | [d1, d2, d3] => { results := [.lit (.bool true)], args := [d1, d2, d3] }
  | _ => none }
def reclaimReadsRow : OpenClaim := { program := "ytejpfcomgamhjaa", sum := "aaec65bb386045bda242e9b1f11c9186692f949c83e41bc1bb1120b01c93f53d", func := "regulator/regulatorlaw36.ReclaimReads", spec := "reclaimReads", unfollowed := true, recurses := true, apart := false }
def ReclaimReadsSaid : Prop := reclaimReadsRow.holds Try.pinned (OpenSpec.ofChange reclaimReadsSpec)

/-- ITS FALSE NEIGHBOUR: 'it returns false'. Refute it at one input. -/
def reclaimReadsWrong : ChangeSpec := { name := "reclaimReads", fn := fun _ => fun
  | [d1, d2, d3] => { results := [.lit (.bool false)], args := [d1, d2, d3] }
  | _ => none }
def ReclaimReadsWrongFalsely : Prop := reclaimReadsRow.holds Try.pinned (OpenSpec.ofChange reclaimReadsWrong)

/-- 'regulatorlaw36.ReclaimAgain': WHATEVER THE INPUT: true; the input reads as it did. -/
def reclaimAgainSpec : ChangeSpec := { name := "reclaimAgain", fn := fun _ => fun
  | [d1, d2, d3] => { results := [.lit (.bool true)], args := [d1, d2, d3] }
  | _ => none }
def reclaimAgainRow : OpenClaim := { program := "ytejpfcomgamhjaa", sum := "aaec65bb386045bda242e9b1f11c9186692f949c83e41bc1bb1120b01c93f53d", func := "regulator/regulatorlaw36.ReclaimAgain", spec := "reclaimAgain", unfollowed := true, recurses := true, apart := false }
def ReclaimAgainSaid : Prop := reclaimAgainRow.holds Try.pinned (OpenSpec.ofChange reclaimAgainSpec)

/-- ITS FALSE NEIGHBOUR: 'it returns false'. Refute it at one input. -/
def reclaimAgainWrong : ChangeSpec := { name := "reclaimAgain", fn := fun _ => fun
  | [d1, d2, d3] => { results := [.lit (.bool false)], args := [d1, d2, d3] }
  | _ => none }
def ReclaimAgainWrongFalsely : Prop := reclaimAgainRow.holds Try.pinned (OpenSpec.ofChange reclaimAgainWrong)

/-- 'regulatorlaw36.ReclaimHorizon': WHATEVER THE INPUT: true; the input reads as it did. -/
def reclaimHorizonSpec : ChangeSpec := { name := "reclaimHorizon", fn := fun _ => fun
  | [d1, d2, d3] => { results := [.lit (.bool true)], args := [d1, d2, d3] }
  | _ => none }
def reclaimHorizonRow : OpenClaim := { program := "ytejpfcomgamhjaa", sum := "aaec65bb386045bda242e9b1f11c9186692f949c83e41bc1bb1120b01c93f53d", func := "regulator/regulatorlaw36.ReclaimHorizon", spec := "reclaimHorizon", unfollowed := true, recurses := true, apart := false }
def ReclaimHorizonSaid : Prop := reclaimHorizonRow.holds Try.pinned (OpenSpec.ofChange reclaimHorizonSpec)

/-- ITS FALSE NEIGHBOUR: 'it returns false'. Refute it at one input. -/
def reclaimHorizonWrong : ChangeSpec := { name := "reclaimHorizon", fn := fun _ => fun
  | [d1, d2, d3] => { results := [.lit (.bool false)], args := [d1, d2, d3] }
  | _ => none }
def ReclaimHorizonWrongFalsely : Prop := reclaimHorizonRow.holds Try.pinned (OpenSpec.ofChange reclaimHorizonWrong)

/-- 'regulatorlaw36.ReclaimOpen': WHATEVER THE INPUT: true; the input reads as it did. -/
def reclaimOpenSpec : ChangeSpec := { name := "reclaimOpen", fn := fun _ => fun
  | [d1, d2, d3] => { results := [.lit (.bool true)], args := [d1, d2, d3] }
  | _ => none }
def reclaimOpenRow : OpenClaim := { program := "ytejpfcomgamhjaa", sum := "aaec65bb386045bda242e9b1f11c9186692f949c83e41bc1bb1120b01c93f53d", func := "regulator/regulatorlaw36.ReclaimOpen", spec := "reclaimOpen", unfollowed := true, recurses := true, apart := false }
def ReclaimOpenSaid : Prop := reclaimOpenRow.holds Try.pinned (OpenSpec.ofChange reclaimOpenSpec)

/-- ITS FALSE NEIGHBOUR: 'it returns false'. Refute it at one input. -/
def reclaimOpenWrong : ChangeSpec := { name := "reclaimOpen", fn := fun _ => fun
  | [d1, d2, d3] => { results := [.lit (.bool false)], args := [d1, d2, d3] }
  | _ => none }
def ReclaimOpenWrongFalsely : Prop := reclaimOpenRow.holds Try.pinned (OpenSpec.ofChange reclaimOpenWrong)

/-- 'regulatorlaw36.ReclaimNothing': WHATEVER THE INPUT: true; the input reads as it did. -/
def reclaimNothingSpec : ChangeSpec := { name := "reclaimNothing", fn := fun _ => fun
  | [d1, d2] => { results := [.lit (.bool true)], args := [d1, d2] }
  | _ => none }
def reclaimNothingRow : OpenClaim := { program := "ytejpfcomgamhjaa", sum := "aaec65bb386045bda242e9b1f11c9186692f949c83e41bc1bb1120b01c93f53d", func := "regulator/regulatorlaw36.ReclaimNothing", spec := "reclaimNothing", unfollowed := true, recurses := true, apart := false }
def ReclaimNothingSaid : Prop := reclaimNothingRow.holds Try.pinned (OpenSpec.ofChange reclaimNothingSpec)

/-- ITS FALSE NEIGHBOUR: 'it returns false'. Refute it at one input. -/
def reclaimNothingWrong : ChangeSpec := { name := "reclaimNothing", fn := fun _ => fun
  | [d1, d2] => { results := [.lit (.bool false)], args := [d1, d2] }
  | _ => none }
def ReclaimNothingWrongFalsely : Prop := reclaimNothingRow.holds Try.pinned (OpenSpec.ofChange reclaimNothingWrong)

/-- 'regulatorlaw33.VersionsMatchesReference': WHATEVER THE INPUT: true; the input reads as it did. -/
def versionsMatchesReferenceSpec : ChangeSpec := { name := "versionsMatchesReference", fn := fun _ => fun
  | [d1, d2, d3, d4] => { results := [.lit (.bool true)], args := [d1, d2, d3, d4] }
  | _ => none }
def versionsMatchesReferenceRow : OpenClaim := { program := "ytejpfcomgamhjaa", sum := "aaec65bb386045bda242e9b1f11c9186692f949c83e41bc1bb1120b01c93f53d", func := "regulator/regulatorlaw33.VersionsMatchesReference", spec := "versionsMatchesReference", inPlace := ["slices.overlaps[regulator/api.Version]"], unfollowed := true, recurses := true, apart := false }
def VersionsMatchesReferenceSaid : Prop := versionsMatchesReferenceRow.holds Try.pinned (OpenSpec.ofChange versionsMatchesReferenceSpec)

/-- ITS FALSE NEIGHBOUR: 'it returns false'. Refute it at one input. -/
def versionsMatchesReferenceWrong : ChangeSpec := { name := "versionsMatchesReference", fn := fun _ => fun
  | [d1, d2, d3, d4] => { results := [.lit (.bool false)], args := [d1, d2, d3, d4] }
  | _ => none }
def VersionsMatchesReferenceWrongFalsely : Prop := versionsMatchesReferenceRow.holds Try.pinned (OpenSpec.ofChange versionsMatchesReferenceWrong)

/-- 'regulatorlaw33.VersionsPut': WHATEVER THE INPUT: true; the input reads as it did. -/
def versionsPutSpec : ChangeSpec := { name := "versionsPut", fn := fun _ => fun
  | [d1, d2, d3, d4] => { results := [.lit (.bool true)], args := [d1, d2, d3, d4] }
  | _ => none }
def versionsPutRow : OpenClaim := { program := "ytejpfcomgamhjaa", sum := "aaec65bb386045bda242e9b1f11c9186692f949c83e41bc1bb1120b01c93f53d", func := "regulator/regulatorlaw33.VersionsPut", spec := "versionsPut", inPlace := ["slices.overlaps[regulator/api.Version]"], unfollowed := true, recurses := true, apart := false }
def VersionsPutSaid : Prop := versionsPutRow.holds Try.pinned (OpenSpec.ofChange versionsPutSpec)

/-- ITS FALSE NEIGHBOUR: 'it returns false'. Refute it at one input. -/
def versionsPutWrong : ChangeSpec := { name := "versionsPut", fn := fun _ => fun
  | [d1, d2, d3, d4] => { results := [.lit (.bool false)], args := [d1, d2, d3, d4] }
  | _ => none }
def VersionsPutWrongFalsely : Prop := versionsPutRow.holds Try.pinned (OpenSpec.ofChange versionsPutWrong)

/-- 'regulatorlaw33.VersionsRead': WHATEVER THE INPUT: true; the input reads as it did. -/
def versionsReadSpec : ChangeSpec := { name := "versionsRead", fn := fun _ => fun
  | [d1, d2, d3] => { results := [.lit (.bool true)], args := [d1, d2, d3] }
  | _ => none }
def versionsReadRow : OpenClaim := { program := "ytejpfcomgamhjaa", sum := "aaec65bb386045bda242e9b1f11c9186692f949c83e41bc1bb1120b01c93f53d", func := "regulator/regulatorlaw33.VersionsRead", spec := "versionsRead", inPlace := ["slices.overlaps[regulator/api.Version]"], unfollowed := true, recurses := true, apart := false }
def VersionsReadSaid : Prop := versionsReadRow.holds Try.pinned (OpenSpec.ofChange versionsReadSpec)

/-- ITS FALSE NEIGHBOUR: 'it returns false'. Refute it at one input. -/
def versionsReadWrong : ChangeSpec := { name := "versionsRead", fn := fun _ => fun
  | [d1, d2, d3] => { results := [.lit (.bool false)], args := [d1, d2, d3] }
  | _ => none }
def VersionsReadWrongFalsely : Prop := versionsReadRow.holds Try.pinned (OpenSpec.ofChange versionsReadWrong)

/-- 'regulatorlaw33.VersionsStable': WHATEVER THE INPUT: true; the input reads as it did. -/
def versionsStableSpec : ChangeSpec := { name := "versionsStable", fn := fun _ => fun
  | [d1, d2] => { results := [.lit (.bool true)], args := [d1, d2] }
  | _ => none }
def versionsStableRow : OpenClaim := { program := "ytejpfcomgamhjaa", sum := "aaec65bb386045bda242e9b1f11c9186692f949c83e41bc1bb1120b01c93f53d", func := "regulator/regulatorlaw33.VersionsStable", spec := "versionsStable", inPlace := ["slices.overlaps[regulator/api.Version]"], unfollowed := true, recurses := true, apart := false }
def VersionsStableSaid : Prop := versionsStableRow.holds Try.pinned (OpenSpec.ofChange versionsStableSpec)

/-- ITS FALSE NEIGHBOUR: 'it returns false'. Refute it at one input. -/
def versionsStableWrong : ChangeSpec := { name := "versionsStable", fn := fun _ => fun
  | [d1, d2] => { results := [.lit (.bool false)], args := [d1, d2] }
  | _ => none }
def VersionsStableWrongFalsely : Prop := versionsStableRow.holds Try.pinned (OpenSpec.ofChange versionsStableWrong)

/-- 'regulatorlaw33.VersionsOrder': WHATEVER THE INPUT: true; the input reads as it did. -/
def versionsOrderSpec : ChangeSpec := { name := "versionsOrder", fn := fun _ => fun
  | [d] => { results := [.lit (.bool true)], args := [d] }
  | _ => none }
def versionsOrderRow : OpenClaim := { program := "ytejpfcomgamhjaa", sum := "aaec65bb386045bda242e9b1f11c9186692f949c83e41bc1bb1120b01c93f53d", func := "regulator/regulatorlaw33.VersionsOrder", spec := "versionsOrder", inPlace := ["slices.overlaps[regulator/api.Version]"], unfollowed := true, recurses := true, apart := false }
def VersionsOrderSaid : Prop := versionsOrderRow.holds Try.pinned (OpenSpec.ofChange versionsOrderSpec)

/-- ITS FALSE NEIGHBOUR: 'it returns false'. Refute it at one input. -/
def versionsOrderWrong : ChangeSpec := { name := "versionsOrder", fn := fun _ => fun
  | [d] => { results := [.lit (.bool false)], args := [d] }
  | _ => none }
def VersionsOrderWrongFalsely : Prop := versionsOrderRow.holds Try.pinned (OpenSpec.ofChange versionsOrderWrong)

/-- 'regulatorlaw33.VersionsNewest': WHATEVER THE INPUT: true; the input reads as it did. -/
def versionsNewestSpec : ChangeSpec := { name := "versionsNewest", fn := fun _ => fun
  | [d1, d2] => { results := [.lit (.bool true)], args := [d1, d2] }
  | _ => none }
def versionsNewestRow : OpenClaim := { program := "ytejpfcomgamhjaa", sum := "aaec65bb386045bda242e9b1f11c9186692f949c83e41bc1bb1120b01c93f53d", func := "regulator/regulatorlaw33.VersionsNewest", spec := "versionsNewest", inPlace := ["slices.overlaps[regulator/api.Version]"], unfollowed := true, recurses := true, apart := false }
def VersionsNewestSaid : Prop := versionsNewestRow.holds Try.pinned (OpenSpec.ofChange versionsNewestSpec)

/-- ITS FALSE NEIGHBOUR: 'it returns false'. Refute it at one input. -/
def versionsNewestWrong : ChangeSpec := { name := "versionsNewest", fn := fun _ => fun
  | [d1, d2] => { results := [.lit (.bool false)], args := [d1, d2] }
  | _ => none }
def VersionsNewestWrongFalsely : Prop := versionsNewestRow.holds Try.pinned (OpenSpec.ofChange versionsNewestWrong)

/-- 'regulatorlaw36.ReclaimWrites': WHATEVER THE INPUT: true; the input reads as it did. -/
def reclaimWritesSpec : ChangeSpec := { name := "reclaimWrites", fn := fun _ => fun
  | [d1, d2, d3] => { results := [.lit (.bool true)], args := [d1, d2, d3] }
  | _ => none }
def reclaimWritesRow : OpenClaim := { program := "ytejpfcomgamhjaa", sum := "aaec65bb386045bda242e9b1f11c9186692f949c83e41bc1bb1120b01c93f53d", func := "regulator/regulatorlaw36.ReclaimWrites", spec := "reclaimWrites", inPlace := ["slices.overlaps[regulator/api.Version]"], unfollowed := true, recurses := true, apart := false }
def ReclaimWritesSaid : Prop := reclaimWritesRow.holds Try.pinned (OpenSpec.ofChange reclaimWritesSpec)

/-- ITS FALSE NEIGHBOUR: 'it returns false'. Refute it at one input. -/
def reclaimWritesWrong : ChangeSpec := { name := "reclaimWrites", fn := fun _ => fun
  | [d1, d2, d3] => { results := [.lit (.bool false)], args := [d1, d2, d3] }
  | _ => none }
def ReclaimWritesWrongFalsely : Prop := reclaimWritesRow.holds Try.pinned (OpenSpec.ofChange reclaimWritesWrong)

/- THE SECOND FORM. 'bulk': how many values and letters a reading holds, each counted each time it is reached (what is shared counts as often as it is met; a slice's spare places count too). A statement '..UptoSaid' is the law's where the arguments, and the package variables that the reading takes, are together of bulk at most 1048576: NARROWER than '..Said'. Prove '..Said' where nothing that the law and all that it calls make is longer than what came in: it says more and counts as full. Else prove '..UptoSaid'. A law counts once. -/
mutual
def uptoBulk {H : Type} : DataW H → Nat
  | .lit (.string bytes) => bytes.length + 1
  | .lit _ => 1
  | .nil => 1
  | .ptr d => uptoBulk d + 1
  | .slice elems spare => uptoBulkAll elems + uptoBulkAll spare + 1
  | .agg parts => uptoBulkAll parts + 1
  | .iface _ d => uptoBulk d + 1
  | .map entries => uptoBulkEntries entries + 1
  | .held _ => 1
def uptoBulkAll {H : Type} : List (DataW H) → Nat
  | [] => 0
  | d :: r => uptoBulk d + uptoBulkAll r
def uptoBulkEntries {H : Type} : List (Lit × DataW H) → Nat
  | [] => 0
  | x :: r => uptoBulkEntry x + uptoBulkEntries r
def uptoBulkEntry {H : Type} : Lit × DataW H → Nat
  | (.string bytes, d) => bytes.length + uptoBulk d + 1
  | (_, d) => uptoBulk d + 1
 end
def uptoSmall : (H : Type) → List (DataW H) → Bool := fun _ ds => decide (uptoBulkAll ds ≤ 1048576)
def OpenSpec.upto (s : _root_.Go.ChangeSpec) : _root_.Go.OpenSpec := { _root_.Go.OpenSpec.ofChange s with cond := some uptoSmall }

/-- 'regulatorlaw36.ReclaimMatchesReference', WHERE WHAT IT READS IS OF BULK AT MOST 1048576: true; the input reads as it did. -/
def reclaimMatchesReferenceUptoRow : OpenClaim := { program := "ytejpfcomgamhjaa", sum := "aaec65bb386045bda242e9b1f11c9186692f949c83e41bc1bb1120b01c93f53d", func := "regulator/regulatorlaw36.ReclaimMatchesReference", spec := "reclaimMatchesReference", unfollowed := true, recurses := true, apart := false, narrowed := true }
def ReclaimMatchesReferenceUptoSaid : Prop := reclaimMatchesReferenceUptoRow.holds Try.pinned (OpenSpec.upto reclaimMatchesReferenceSpec)

/-- 'regulatorlaw36.ReclaimReads', WHERE WHAT IT READS IS OF BULK AT MOST 1048576: true; the input reads as it did. -/
def reclaimReadsUptoRow : OpenClaim := { program := "ytejpfcomgamhjaa", sum := "aaec65bb386045bda242e9b1f11c9186692f949c83e41bc1bb1120b01c93f53d", func := "regulator/regulatorlaw36.ReclaimReads", spec := "reclaimReads", unfollowed := true, recurses := true, apart := false, narrowed := true }
def ReclaimReadsUptoSaid : Prop := reclaimReadsUptoRow.holds Try.pinned (OpenSpec.upto reclaimReadsSpec)

/-- 'regulatorlaw36.ReclaimAgain', WHERE WHAT IT READS IS OF BULK AT MOST 1048576: true; the input reads as it did. -/
def reclaimAgainUptoRow : OpenClaim := { program := "ytejpfcomgamhjaa", sum := "aaec65bb386045bda242e9b1f11c9186692f949c83e41bc1bb1120b01c93f53d", func := "regulator/regulatorlaw36.ReclaimAgain", spec := "reclaimAgain", unfollowed := true, recurses := true, apart := false, narrowed := true }
def ReclaimAgainUptoSaid : Prop := reclaimAgainUptoRow.holds Try.pinned (OpenSpec.upto reclaimAgainSpec)

/-- 'regulatorlaw36.ReclaimHorizon', WHERE WHAT IT READS IS OF BULK AT MOST 1048576: true; the input reads as it did. -/
def reclaimHorizonUptoRow : OpenClaim := { program := "ytejpfcomgamhjaa", sum := "aaec65bb386045bda242e9b1f11c9186692f949c83e41bc1bb1120b01c93f53d", func := "regulator/regulatorlaw36.ReclaimHorizon", spec := "reclaimHorizon", unfollowed := true, recurses := true, apart := false, narrowed := true }
def ReclaimHorizonUptoSaid : Prop := reclaimHorizonUptoRow.holds Try.pinned (OpenSpec.upto reclaimHorizonSpec)

/-- 'regulatorlaw36.ReclaimOpen', WHERE WHAT IT READS IS OF BULK AT MOST 1048576: true; the input reads as it did. -/
def reclaimOpenUptoRow : OpenClaim := { program := "ytejpfcomgamhjaa", sum := "aaec65bb386045bda242e9b1f11c9186692f949c83e41bc1bb1120b01c93f53d", func := "regulator/regulatorlaw36.ReclaimOpen", spec := "reclaimOpen", unfollowed := true, recurses := true, apart := false, narrowed := true }
def ReclaimOpenUptoSaid : Prop := reclaimOpenUptoRow.holds Try.pinned (OpenSpec.upto reclaimOpenSpec)

/-- 'regulatorlaw36.ReclaimNothing', WHERE WHAT IT READS IS OF BULK AT MOST 1048576: true; the input reads as it did. -/
def reclaimNothingUptoRow : OpenClaim := { program := "ytejpfcomgamhjaa", sum := "aaec65bb386045bda242e9b1f11c9186692f949c83e41bc1bb1120b01c93f53d", func := "regulator/regulatorlaw36.ReclaimNothing", spec := "reclaimNothing", unfollowed := true, recurses := true, apart := false, narrowed := true }
def ReclaimNothingUptoSaid : Prop := reclaimNothingUptoRow.holds Try.pinned (OpenSpec.upto reclaimNothingSpec)

/-- 'regulatorlaw33.VersionsMatchesReference', WHERE WHAT IT READS IS OF BULK AT MOST 1048576: true; the input reads as it did. -/
def versionsMatchesReferenceUptoRow : OpenClaim := { program := "ytejpfcomgamhjaa", sum := "aaec65bb386045bda242e9b1f11c9186692f949c83e41bc1bb1120b01c93f53d", func := "regulator/regulatorlaw33.VersionsMatchesReference", spec := "versionsMatchesReference", inPlace := ["slices.overlaps[regulator/api.Version]"], unfollowed := true, recurses := true, apart := false, narrowed := true }
def VersionsMatchesReferenceUptoSaid : Prop := versionsMatchesReferenceUptoRow.holds Try.pinned (OpenSpec.upto versionsMatchesReferenceSpec)

/-- 'regulatorlaw33.VersionsPut', WHERE WHAT IT READS IS OF BULK AT MOST 1048576: true; the input reads as it did. -/
def versionsPutUptoRow : OpenClaim := { program := "ytejpfcomgamhjaa", sum := "aaec65bb386045bda242e9b1f11c9186692f949c83e41bc1bb1120b01c93f53d", func := "regulator/regulatorlaw33.VersionsPut", spec := "versionsPut", inPlace := ["slices.overlaps[regulator/api.Version]"], unfollowed := true, recurses := true, apart := false, narrowed := true }
def VersionsPutUptoSaid : Prop := versionsPutUptoRow.holds Try.pinned (OpenSpec.upto versionsPutSpec)

/-- 'regulatorlaw33.VersionsRead', WHERE WHAT IT READS IS OF BULK AT MOST 1048576: true; the input reads as it did. -/
def versionsReadUptoRow : OpenClaim := { program := "ytejpfcomgamhjaa", sum := "aaec65bb386045bda242e9b1f11c9186692f949c83e41bc1bb1120b01c93f53d", func := "regulator/regulatorlaw33.VersionsRead", spec := "versionsRead", inPlace := ["slices.overlaps[regulator/api.Version]"], unfollowed := true, recurses := true, apart := false, narrowed := true }
def VersionsReadUptoSaid : Prop := versionsReadUptoRow.holds Try.pinned (OpenSpec.upto versionsReadSpec)

/-- 'regulatorlaw33.VersionsStable', WHERE WHAT IT READS IS OF BULK AT MOST 1048576: true; the input reads as it did. -/
def versionsStableUptoRow : OpenClaim := { program := "ytejpfcomgamhjaa", sum := "aaec65bb386045bda242e9b1f11c9186692f949c83e41bc1bb1120b01c93f53d", func := "regulator/regulatorlaw33.VersionsStable", spec := "versionsStable", inPlace := ["slices.overlaps[regulator/api.Version]"], unfollowed := true, recurses := true, apart := false, narrowed := true }
def VersionsStableUptoSaid : Prop := versionsStableUptoRow.holds Try.pinned (OpenSpec.upto versionsStableSpec)

/-- 'regulatorlaw33.VersionsOrder', WHERE WHAT IT READS IS OF BULK AT MOST 1048576: true; the input reads as it did. -/
def versionsOrderUptoRow : OpenClaim := { program := "ytejpfcomgamhjaa", sum := "aaec65bb386045bda242e9b1f11c9186692f949c83e41bc1bb1120b01c93f53d", func := "regulator/regulatorlaw33.VersionsOrder", spec := "versionsOrder", inPlace := ["slices.overlaps[regulator/api.Version]"], unfollowed := true, recurses := true, apart := false, narrowed := true }
def VersionsOrderUptoSaid : Prop := versionsOrderUptoRow.holds Try.pinned (OpenSpec.upto versionsOrderSpec)

/-- 'regulatorlaw33.VersionsNewest', WHERE WHAT IT READS IS OF BULK AT MOST 1048576: true; the input reads as it did. -/
def versionsNewestUptoRow : OpenClaim := { program := "ytejpfcomgamhjaa", sum := "aaec65bb386045bda242e9b1f11c9186692f949c83e41bc1bb1120b01c93f53d", func := "regulator/regulatorlaw33.VersionsNewest", spec := "versionsNewest", inPlace := ["slices.overlaps[regulator/api.Version]"], unfollowed := true, recurses := true, apart := false, narrowed := true }
def VersionsNewestUptoSaid : Prop := versionsNewestUptoRow.holds Try.pinned (OpenSpec.upto versionsNewestSpec)

/-- 'regulatorlaw36.ReclaimWrites', WHERE WHAT IT READS IS OF BULK AT MOST 1048576: true; the input reads as it did. -/
def reclaimWritesUptoRow : OpenClaim := { program := "ytejpfcomgamhjaa", sum := "aaec65bb386045bda242e9b1f11c9186692f949c83e41bc1bb1120b01c93f53d", func := "regulator/regulatorlaw36.ReclaimWrites", spec := "reclaimWrites", inPlace := ["slices.overlaps[regulator/api.Version]"], unfollowed := true, recurses := true, apart := false, narrowed := true }
def ReclaimWritesUptoSaid : Prop := reclaimWritesUptoRow.holds Try.pinned (OpenSpec.upto reclaimWritesSpec)

end Rows
end Go.Proofs.Ytejpfcomgamhjaa
