/-
  No cell of these rows narrows 'for every input' (looked for: loops, veiled, ifaces, maps, wideKeys, modest, calm, conditions, laid).
  DERIVED. THE GIVEN ROWS OF THIS SEAT. 5 by the template 'for every input the law returns true; each argument reads behind the call as it read before'; 0 by the template 'total and deterministic' (their statements: YtlfkgbideknkhaaTotals.lean).
  GIVEN WITH THE SEED: the statements are not yours to turn. If you find one false, say at which input.
  Laid BY PROGRAM, IN A SANDBOX (cutbox-rows.mjs): the forced cells as the released guide's own fill.sh prints them over the translation fd5ab2fdda7218a4… (all of the seat's roots in one cut). By AI agents, Wed Nov 11 2026. No macro, syntax, notation, axiom, sorry.
-/
import Derived.Test.YtlfkgbideknkhaaChecked
import GoSem.Claim
import GoSem.ClaimJoined
import GoSem.ClaimMapViews
import Derived.JoinedTies
import Derived.KernelRfl
namespace Go.Proofs.Ytlfkgbideknkhaa
/- THE CELL 'sum', in the pinned program and in every row, IS THE sha256 OF THE DUMP (.gsa) THAT YtlfkgbideknkhaaProg.lean LOADS. Nothing in Lean hashes anything: it is a label: what it is worth is what the hold of that sum in a sandbox is worth. -/
noncomputable def Try.pinned : Pinned := { name := "ytlfkgbideknkhaa", sum := "fd5ab2fdda7218a4a974f29da735de7cbf92a70c97ae1820796968693ca43785", checked := Try.checked }
namespace Rows
def none {H : Type} : Left H := { results := [], args := [] }

/-- 'regulatorlaw37.JournalMatchesReference': WHATEVER THE INPUT: true; the input reads as it did. -/
def journalMatchesReferenceSpec : ChangeSpec := { name := "journalMatchesReference", fn := fun _ => fun
  | [d1, d2] => { results := [.lit (.bool true)], args := [d1, d2] }
  | _ => none }
def journalMatchesReferenceRow : OpenClaim := { program := "ytlfkgbideknkhaa", sum := "fd5ab2fdda7218a4a974f29da735de7cbf92a70c97ae1820796968693ca43785", func := "regulator/regulatorlaw37.JournalMatchesReference", spec := "journalMatchesReference", inPlace := ["slices.overlaps[regulator/api.Version]"], unfollowed := true, recurses := true, apart := false }
def JournalMatchesReferenceSaid : Prop := journalMatchesReferenceRow.holds Try.pinned (OpenSpec.ofChange journalMatchesReferenceSpec)

/-- ITS FALSE NEIGHBOUR: 'it returns false'. Refute it at one input. -/
def journalMatchesReferenceWrong : ChangeSpec := { name := "journalMatchesReference", fn := fun _ => fun
  | [d1, d2] => { results := [.lit (.bool false)], args := [d1, d2] }
  | _ => none }
def JournalMatchesReferenceWrongFalsely : Prop := journalMatchesReferenceRow.holds Try.pinned (OpenSpec.ofChange journalMatchesReferenceWrong)

/-- 'regulatorlaw37.JournalAppends': WHATEVER THE INPUT: true; the input reads as it did. -/
def journalAppendsSpec : ChangeSpec := { name := "journalAppends", fn := fun _ => fun
  | [d1, d2] => { results := [.lit (.bool true)], args := [d1, d2] }
  | _ => none }
def journalAppendsRow : OpenClaim := { program := "ytlfkgbideknkhaa", sum := "fd5ab2fdda7218a4a974f29da735de7cbf92a70c97ae1820796968693ca43785", func := "regulator/regulatorlaw37.JournalAppends", spec := "journalAppends", inPlace := ["slices.overlaps[regulator/api.Version]"], unfollowed := true, recurses := true, apart := false }
def JournalAppendsSaid : Prop := journalAppendsRow.holds Try.pinned (OpenSpec.ofChange journalAppendsSpec)

/-- ITS FALSE NEIGHBOUR: 'it returns false'. Refute it at one input. -/
def journalAppendsWrong : ChangeSpec := { name := "journalAppends", fn := fun _ => fun
  | [d1, d2] => { results := [.lit (.bool false)], args := [d1, d2] }
  | _ => none }
def JournalAppendsWrongFalsely : Prop := journalAppendsRow.holds Try.pinned (OpenSpec.ofChange journalAppendsWrong)

/-- 'regulatorlaw37.JournalCuts': WHATEVER THE INPUT: true; the input reads as it did. -/
def journalCutsSpec : ChangeSpec := { name := "journalCuts", fn := fun _ => fun
  | [d1, d2, d3] => { results := [.lit (.bool true)], args := [d1, d2, d3] }
  | _ => none }
def journalCutsRow : OpenClaim := { program := "ytlfkgbideknkhaa", sum := "fd5ab2fdda7218a4a974f29da735de7cbf92a70c97ae1820796968693ca43785", func := "regulator/regulatorlaw37.JournalCuts", spec := "journalCuts", inPlace := ["slices.overlaps[regulator/api.Version]"], unfollowed := true, recurses := true, apart := false }
def JournalCutsSaid : Prop := journalCutsRow.holds Try.pinned (OpenSpec.ofChange journalCutsSpec)

/-- ITS FALSE NEIGHBOUR: 'it returns false'. Refute it at one input. -/
def journalCutsWrong : ChangeSpec := { name := "journalCuts", fn := fun _ => fun
  | [d1, d2, d3] => { results := [.lit (.bool false)], args := [d1, d2, d3] }
  | _ => none }
def JournalCutsWrongFalsely : Prop := journalCutsRow.holds Try.pinned (OpenSpec.ofChange journalCutsWrong)

/-- 'regulatorlaw37.JournalGoesOn': WHATEVER THE INPUT: true; the input reads as it did. -/
def journalGoesOnSpec : ChangeSpec := { name := "journalGoesOn", fn := fun _ => fun
  | [d1, d2, d3] => { results := [.lit (.bool true)], args := [d1, d2, d3] }
  | _ => none }
def journalGoesOnRow : OpenClaim := { program := "ytlfkgbideknkhaa", sum := "fd5ab2fdda7218a4a974f29da735de7cbf92a70c97ae1820796968693ca43785", func := "regulator/regulatorlaw37.JournalGoesOn", spec := "journalGoesOn", inPlace := ["slices.overlaps[regulator/api.Version]"], unfollowed := true, recurses := true, apart := false }
def JournalGoesOnSaid : Prop := journalGoesOnRow.holds Try.pinned (OpenSpec.ofChange journalGoesOnSpec)

/-- ITS FALSE NEIGHBOUR: 'it returns false'. Refute it at one input. -/
def journalGoesOnWrong : ChangeSpec := { name := "journalGoesOn", fn := fun _ => fun
  | [d1, d2, d3] => { results := [.lit (.bool false)], args := [d1, d2, d3] }
  | _ => none }
def JournalGoesOnWrongFalsely : Prop := journalGoesOnRow.holds Try.pinned (OpenSpec.ofChange journalGoesOnWrong)

/-- 'regulatorlaw37.JournalRecovers': WHATEVER THE INPUT: true; the input reads as it did. -/
def journalRecoversSpec : ChangeSpec := { name := "journalRecovers", fn := fun _ => fun
  | [d1, d2, d3, d4] => { results := [.lit (.bool true)], args := [d1, d2, d3, d4] }
  | _ => none }
def journalRecoversRow : OpenClaim := { program := "ytlfkgbideknkhaa", sum := "fd5ab2fdda7218a4a974f29da735de7cbf92a70c97ae1820796968693ca43785", func := "regulator/regulatorlaw37.JournalRecovers", spec := "journalRecovers", inPlace := ["slices.overlaps[regulator/api.Version]"], unfollowed := true, recurses := true, apart := false }
def JournalRecoversSaid : Prop := journalRecoversRow.holds Try.pinned (OpenSpec.ofChange journalRecoversSpec)

/-- ITS FALSE NEIGHBOUR: 'it returns false'. Refute it at one input. -/
def journalRecoversWrong : ChangeSpec := { name := "journalRecovers", fn := fun _ => fun
  | [d1, d2, d3, d4] => { results := [.lit (.bool false)], args := [d1, d2, d3, d4] }
  | _ => none }
def JournalRecoversWrongFalsely : Prop := journalRecoversRow.holds Try.pinned (OpenSpec.ofChange journalRecoversWrong)

/- THE SECOND FORM. 'bulk': how many values and letters a reading holds, each counted each time it is reached (what is shared counts as often as it is met; a slice's spare places count too). A statement '..UptoSaid' is the law's where the arguments, and the package variables that the reading takes, are together of bulk at most 1048576: NARROWER than '..Said'. Prove '..Said' where nothing that the law and all that it calls make is longer than what came in: it says more and counts as full. Else prove '..UptoSaid'. A law counts once. -/
mutual
def uptoBulk {H : Type} : DataW H → Nat
  | .lit (.string bytes) => bytes.length + 1
  | .lit _ => 1
  | .nil => 1
  | .ptr d => uptoBulk d + 1
  | .slice elems spare => uptoBulkAll elems + uptoBulkAll spare + 1
  | .agg parts => uptoBulkAll parts + 1
  | .iface _ d => uptoBulk d + 1
  | .map entries => uptoBulkEntries entries + 1
  | .held _ => 1
def uptoBulkAll {H : Type} : List (DataW H) → Nat
  | [] => 0
  | d :: r => uptoBulk d + uptoBulkAll r
def uptoBulkEntries {H : Type} : List (Lit × DataW H) → Nat
  | [] => 0
  | x :: r => uptoBulkEntry x + uptoBulkEntries r
def uptoBulkEntry {H : Type} : Lit × DataW H → Nat
  | (.string bytes, d) => bytes.length + uptoBulk d + 1
  | (_, d) => uptoBulk d + 1
 end
def uptoSmall : (H : Type) → List (DataW H) → Bool := fun _ ds => decide (uptoBulkAll ds ≤ 1048576)
def OpenSpec.upto (s : _root_.Go.ChangeSpec) : _root_.Go.OpenSpec := { _root_.Go.OpenSpec.ofChange s with cond := some uptoSmall }

/-- 'regulatorlaw37.JournalMatchesReference', WHERE WHAT IT READS IS OF BULK AT MOST 1048576: true; the input reads as it did. -/
def journalMatchesReferenceUptoRow : OpenClaim := { program := "ytlfkgbideknkhaa", sum := "fd5ab2fdda7218a4a974f29da735de7cbf92a70c97ae1820796968693ca43785", func := "regulator/regulatorlaw37.JournalMatchesReference", spec := "journalMatchesReference", inPlace := ["slices.overlaps[regulator/api.Version]"], unfollowed := true, recurses := true, apart := false, narrowed := true }
def JournalMatchesReferenceUptoSaid : Prop := journalMatchesReferenceUptoRow.holds Try.pinned (OpenSpec.upto journalMatchesReferenceSpec)

/-- 'regulatorlaw37.JournalAppends', WHERE WHAT IT READS IS OF BULK AT MOST 1048576: true; the input reads as it did. -/
def journalAppendsUptoRow : OpenClaim := { program := "ytlfkgbideknkhaa", sum := "fd5ab2fdda7218a4a974f29da735de7cbf92a70c97ae1820796968693ca43785", func := "regulator/regulatorlaw37.JournalAppends", spec := "journalAppends", inPlace := ["slices.overlaps[regulator/api.Version]"], unfollowed := true, recurses := true, apart := false, narrowed := true }
def JournalAppendsUptoSaid : Prop := journalAppendsUptoRow.holds Try.pinned (OpenSpec.upto journalAppendsSpec)

/-- 'regulatorlaw37.JournalCuts', WHERE WHAT IT READS IS OF BULK AT MOST 1048576: true; the input reads as it did. -/
def journalCutsUptoRow : OpenClaim := { program := "ytlfkgbideknkhaa", sum := "fd5ab2fdda7218a4a974f29da735de7cbf92a70c97ae1820796968693ca43785", func := "regulator/regulatorlaw37.JournalCuts", spec := "journalCuts", inPlace := ["slices.overlaps[regulator/api.Version]"], unfollowed := true, recurses := true, apart := false, narrowed := true }
def JournalCutsUptoSaid : Prop := journalCutsUptoRow.holds Try.pinned (OpenSpec.upto journalCutsSpec)

/-- 'regulatorlaw37.JournalGoesOn', WHERE WHAT IT READS IS OF BULK AT MOST 1048576: true; the input reads as it did. -/
def journalGoesOnUptoRow : OpenClaim := { program := "ytlfkgbideknkhaa", sum := "fd5ab2fdda7218a4a974f29da735de7cbf92a70c97ae1820796968693ca43785", func := "regulator/regulatorlaw37.JournalGoesOn", spec := "journalGoesOn", inPlace := ["slices.overlaps[regulator/api.Version]"], unfollowed := true, recurses := true, apart := false, narrowed := true }
def JournalGoesOnUptoSaid : Prop := journalGoesOnUptoRow.holds Try.pinned (OpenSpec.upto journalGoesOnSpec)

/-- 'regulatorlaw37.JournalRecovers', WHERE WHAT IT READS IS OF BULK AT MOST 1048576: true; the input reads as it did. -/
def journalRecoversUptoRow : OpenClaim := { program := "ytlfkgbideknkhaa", sum := "fd5ab2fdda7218a4a974f29da735de7cbf92a70c97ae1820796968693ca43785", func := "regulator/regulatorlaw37.JournalRecovers", spec := "journalRecovers", inPlace := ["slices.overlaps[regulator/api.Version]"], unfollowed := true, recurses := true, apart := false, narrowed := true }
def JournalRecoversUptoSaid : Prop := journalRecoversUptoRow.holds Try.pinned (OpenSpec.upto journalRecoversSpec)

end Rows
end Go.Proofs.Ytlfkgbideknkhaa
