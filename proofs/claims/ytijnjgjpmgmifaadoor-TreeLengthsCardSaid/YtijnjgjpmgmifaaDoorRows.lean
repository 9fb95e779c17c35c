/-
  NARROWER THAN 'FOR EVERY INPUT', by the rows' own cells (each row's printed sentence says how): TreeMatchesReference: laid · TreeShape: laid · TreeIncludes: laid · TreeExtends: laid · TreeBeginnings: laid · TreeLengths: laid · TreeOthers: laid.
  DERIVED. THE GIVEN ROWS OF THIS SEAT. 7 by the template 'for every input the law returns true; each argument reads behind the call as it read before'; 0 by the template 'total and deterministic' (their statements: YtijnjgjpmgmifaaDoorTotals.lean).
  GIVEN WITH THE SEED: the statements are not yours to turn. If you find one false, say at which input.
  Laid BY PROGRAM, IN A SANDBOX (cutbox-rows.mjs): the forced cells as the released guide's own fill.sh prints them over the translation 0aa025bce6a103fb… (all of the seat's roots in one cut). By AI agents, Wed Nov 11 2026. No macro, syntax, notation, axiom, sorry.
-/
import Derived.Test.YtijnjgjpmgmifaaDoorChecked
import GoSem.Claim
import GoSem.ClaimJoined
import GoSem.ClaimMapViews
import Derived.JoinedTies
import Derived.KernelRfl
namespace Go.Proofs.YtijnjgjpmgmifaaDoor
/- THE CELL 'sum', in the pinned program and in every row, IS THE sha256 OF THE DUMP (.gsa) THAT YtijnjgjpmgmifaaDoorProg.lean LOADS. Nothing in Lean hashes anything: it is a label: what it is worth is what the hold of that sum in a sandbox is worth. -/
noncomputable def Tryd.pinned : Pinned := { name := "ytijnjgjpmgmifaadoor", sum := "0aa025bce6a103fb9d5c130512e4e7429d6f7d90b75d2fb99a087bc967b23045", checked := Tryd.checked }
namespace Rows
def none {H : Type} : Left H := { results := [], args := [] }

/- WHAT THE LISTED PACKAGE-LEVEL VARIABLES READ AS WHEN THE CALL BEGINS. Each datum BY PROGRAM (the guide's laid-datum.mjs) off the statement by which the dump's own 'gosem.cut.vars' lays the variable. In a bare row this is a premise. The card (YtijnjgjpmgmifaaDoorCards.lean) ties it to the program's text. -/
def laid_math_bits_deBruijn32tab {H : Type} : DataW H := .agg [.lit (.int .u8 0), .lit (.int .u8 1), .lit (.int .u8 28), .lit (.int .u8 2), .lit (.int .u8 29), .lit (.int .u8 14), .lit (.int .u8 24), .lit (.int .u8 3), .lit (.int .u8 30), .lit (.int .u8 22), .lit (.int .u8 20), .lit (.int .u8 15), .lit (.int .u8 25), .lit (.int .u8 17), .lit (.int .u8 4), .lit (.int .u8 8), .lit (.int .u8 31), .lit (.int .u8 27), .lit (.int .u8 13), .lit (.int .u8 23), .lit (.int .u8 21), .lit (.int .u8 19), .lit (.int .u8 16), .lit (.int .u8 7), .lit (.int .u8 26), .lit (.int .u8 12), .lit (.int .u8 18), .lit (.int .u8 6), .lit (.int .u8 11), .lit (.int .u8 5), .lit (.int .u8 10), .lit (.int .u8 9)]
def laid_math_bits_deBruijn64tab {H : Type} : DataW H := .agg [.lit (.int .u8 0), .lit (.int .u8 1), .lit (.int .u8 56), .lit (.int .u8 2), .lit (.int .u8 57), .lit (.int .u8 49), .lit (.int .u8 28), .lit (.int .u8 3), .lit (.int .u8 61), .lit (.int .u8 58), .lit (.int .u8 42), .lit (.int .u8 50), .lit (.int .u8 38), .lit (.int .u8 29), .lit (.int .u8 17), .lit (.int .u8 4), .lit (.int .u8 62), .lit (.int .u8 47), .lit (.int .u8 59), .lit (.int .u8 36), .lit (.int .u8 45), .lit (.int .u8 43), .lit (.int .u8 51), .lit (.int .u8 22), .lit (.int .u8 53), .lit (.int .u8 39), .lit (.int .u8 33), .lit (.int .u8 30), .lit (.int .u8 24), .lit (.int .u8 18), .lit (.int .u8 12), .lit (.int .u8 5), .lit (.int .u8 63), .lit (.int .u8 55), .lit (.int .u8 48), .lit (.int .u8 27), .lit (.int .u8 60), .lit (.int .u8 41), .lit (.int .u8 37), .lit (.int .u8 16), .lit (.int .u8 46), .lit (.int .u8 35), .lit (.int .u8 44), .lit (.int .u8 21), .lit (.int .u8 52), .lit (.int .u8 32), .lit (.int .u8 23), .lit (.int .u8 11), .lit (.int .u8 54), .lit (.int .u8 26), .lit (.int .u8 40), .lit (.int .u8 15), .lit (.int .u8 34), .lit (.int .u8 20), .lit (.int .u8 31), .lit (.int .u8 10), .lit (.int .u8 25), .lit (.int .u8 14), .lit (.int .u8 19), .lit (.int .u8 9), .lit (.int .u8 13), .lit (.int .u8 8), .lit (.int .u8 7), .lit (.int .u8 6)]
def laid_internal_strconv_uint64pow10 {H : Type} : DataW H := .agg [.lit (.int .u64 1), .lit (.int .u64 10), .lit (.int .u64 100), .lit (.int .u64 1000), .lit (.int .u64 10000), .lit (.int .u64 100000), .lit (.int .u64 1000000), .lit (.int .u64 10000000), .lit (.int .u64 100000000), .lit (.int .u64 1000000000), .lit (.int .u64 10000000000), .lit (.int .u64 100000000000), .lit (.int .u64 1000000000000), .lit (.int .u64 10000000000000), .lit (.int .u64 100000000000000), .lit (.int .u64 1000000000000000), .lit (.int .u64 10000000000000000), .lit (.int .u64 100000000000000000), .lit (.int .u64 1000000000000000000), .lit (.int .u64 10000000000000000000)]

/-- 'regulatorlaw24.TreeMatchesReference': WHATEVER THE INPUT: true; the input reads as it did. -/
def treeMatchesReferenceSpec : ChangeSpec := { name := "treeMatchesReference", fn := fun _ => fun
  | [d1, d2, d3, d4, d5, d6] => { results := [.lit (.bool true)], args := [d1, d2, d3, d4, d5, d6] }
  | _ => none }
def treeMatchesReferenceRow : OpenClaim := { program := "ytijnjgjpmgmifaadoor", sum := "0aa025bce6a103fb9d5c130512e4e7429d6f7d90b75d2fb99a087bc967b23045", func := "regulator/regulatorlaw24.TreeMatchesReference", spec := "treeMatchesReference", inPlace := ["slices.overlaps[uint64]"], unfollowed := true, recurses := true, named := ["internal/strconv.uint64pow10", "math/bits.deBruijn32tab", "math/bits.deBruijn64tab"], apart := false, laid := [("math/bits.deBruijn32tab", laid_math_bits_deBruijn32tab), ("math/bits.deBruijn64tab", laid_math_bits_deBruijn64tab), ("internal/strconv.uint64pow10", laid_internal_strconv_uint64pow10)] }
def TreeMatchesReferenceSaid : Prop := treeMatchesReferenceRow.holds Tryd.pinned (OpenSpec.ofChange treeMatchesReferenceSpec)

/-- ITS FALSE NEIGHBOUR: 'it returns false'. Refute it at one input. -/
def treeMatchesReferenceWrong : ChangeSpec := { name := "treeMatchesReference", fn := fun _ => fun
  | [d1, d2, d3, d4, d5, d6] => { results := [.lit (.bool false)], args := [d1, d2, d3, d4, d5, d6] }
  | _ => none }
def TreeMatchesReferenceWrongFalsely : Prop := treeMatchesReferenceRow.holds Tryd.pinned (OpenSpec.ofChange treeMatchesReferenceWrong)

/-- 'regulatorlaw24.TreeShape': WHATEVER THE INPUT: true; the input reads as it did. -/
def treeShapeSpec : ChangeSpec := { name := "treeShape", fn := fun _ => fun
  | [d1, d2] => { results := [.lit (.bool true)], args := [d1, d2] }
  | _ => none }
def treeShapeRow : OpenClaim := { program := "ytijnjgjpmgmifaadoor", sum := "0aa025bce6a103fb9d5c130512e4e7429d6f7d90b75d2fb99a087bc967b23045", func := "regulator/regulatorlaw24.TreeShape", spec := "treeShape", inPlace := ["slices.overlaps[uint64]"], unfollowed := true, recurses := true, named := ["internal/strconv.uint64pow10", "math/bits.deBruijn32tab", "math/bits.deBruijn64tab"], apart := false, laid := [("math/bits.deBruijn32tab", laid_math_bits_deBruijn32tab), ("math/bits.deBruijn64tab", laid_math_bits_deBruijn64tab), ("internal/strconv.uint64pow10", laid_internal_strconv_uint64pow10)] }
def TreeShapeSaid : Prop := treeShapeRow.holds Tryd.pinned (OpenSpec.ofChange treeShapeSpec)

/-- ITS FALSE NEIGHBOUR: 'it returns false'. Refute it at one input. -/
def treeShapeWrong : ChangeSpec := { name := "treeShape", fn := fun _ => fun
  | [d1, d2] => { results := [.lit (.bool false)], args := [d1, d2] }
  | _ => none }
def TreeShapeWrongFalsely : Prop := treeShapeRow.holds Tryd.pinned (OpenSpec.ofChange treeShapeWrong)

/-- 'regulatorlaw24.TreeIncludes': WHATEVER THE INPUT: true; the input reads as it did. -/
def treeIncludesSpec : ChangeSpec := { name := "treeIncludes", fn := fun _ => fun
  | [d1, d2, d3] => { results := [.lit (.bool true)], args := [d1, d2, d3] }
  | _ => none }
def treeIncludesRow : OpenClaim := { program := "ytijnjgjpmgmifaadoor", sum := "0aa025bce6a103fb9d5c130512e4e7429d6f7d90b75d2fb99a087bc967b23045", func := "regulator/regulatorlaw24.TreeIncludes", spec := "treeIncludes", inPlace := ["slices.overlaps[uint64]"], unfollowed := true, recurses := true, named := ["internal/strconv.uint64pow10", "math/bits.deBruijn32tab", "math/bits.deBruijn64tab"], apart := false, laid := [("math/bits.deBruijn32tab", laid_math_bits_deBruijn32tab), ("math/bits.deBruijn64tab", laid_math_bits_deBruijn64tab), ("internal/strconv.uint64pow10", laid_internal_strconv_uint64pow10)] }
def TreeIncludesSaid : Prop := treeIncludesRow.holds Tryd.pinned (OpenSpec.ofChange treeIncludesSpec)

/-- ITS FALSE NEIGHBOUR: 'it returns false'. Refute it at one input. -/
def treeIncludesWrong : ChangeSpec := { name := "treeIncludes", fn := fun _ => fun
  | [d1, d2, d3] => { results := [.lit (.bool false)], args := [d1, d2, d3] }
  | _ => none }
def TreeIncludesWrongFalsely : Prop := treeIncludesRow.holds Tryd.pinned (OpenSpec.ofChange treeIncludesWrong)

/-- 'regulatorlaw24.TreeExtends': WHATEVER THE INPUT: true; the input reads as it did. -/
def treeExtendsSpec : ChangeSpec := { name := "treeExtends", fn := fun _ => fun
  | [d1, d2] => { results := [.lit (.bool true)], args := [d1, d2] }
  | _ => none }
def treeExtendsRow : OpenClaim := { program := "ytijnjgjpmgmifaadoor", sum := "0aa025bce6a103fb9d5c130512e4e7429d6f7d90b75d2fb99a087bc967b23045", func := "regulator/regulatorlaw24.TreeExtends", spec := "treeExtends", inPlace := ["slices.overlaps[uint64]"], unfollowed := true, recurses := true, named := ["internal/strconv.uint64pow10", "math/bits.deBruijn32tab", "math/bits.deBruijn64tab"], apart := false, laid := [("math/bits.deBruijn32tab", laid_math_bits_deBruijn32tab), ("math/bits.deBruijn64tab", laid_math_bits_deBruijn64tab), ("internal/strconv.uint64pow10", laid_internal_strconv_uint64pow10)] }
def TreeExtendsSaid : Prop := treeExtendsRow.holds Tryd.pinned (OpenSpec.ofChange treeExtendsSpec)

/-- ITS FALSE NEIGHBOUR: 'it returns false'. Refute it at one input. -/
def treeExtendsWrong : ChangeSpec := { name := "treeExtends", fn := fun _ => fun
  | [d1, d2] => { results := [.lit (.bool false)], args := [d1, d2] }
  | _ => none }
def TreeExtendsWrongFalsely : Prop := treeExtendsRow.holds Tryd.pinned (OpenSpec.ofChange treeExtendsWrong)

/-- 'regulatorlaw24.TreeBeginnings': WHATEVER THE INPUT: true; the input reads as it did. -/
def treeBeginningsSpec : ChangeSpec := { name := "treeBeginnings", fn := fun _ => fun
  | [d1, d2, d3, d4] => { results := [.lit (.bool true)], args := [d1, d2, d3, d4] }
  | _ => none }
def treeBeginningsRow : OpenClaim := { program := "ytijnjgjpmgmifaadoor", sum := "0aa025bce6a103fb9d5c130512e4e7429d6f7d90b75d2fb99a087bc967b23045", func := "regulator/regulatorlaw24.TreeBeginnings", spec := "treeBeginnings", inPlace := ["slices.overlaps[uint64]"], unfollowed := true, recurses := true, named := ["internal/strconv.uint64pow10", "math/bits.deBruijn32tab", "math/bits.deBruijn64tab"], apart := false, laid := [("math/bits.deBruijn32tab", laid_math_bits_deBruijn32tab), ("math/bits.deBruijn64tab", laid_math_bits_deBruijn64tab), ("internal/strconv.uint64pow10", laid_internal_strconv_uint64pow10)] }
def TreeBeginningsSaid : Prop := treeBeginningsRow.holds Tryd.pinned (OpenSpec.ofChange treeBeginningsSpec)

/-- ITS FALSE NEIGHBOUR: 'it returns false'. Refute it at one input. -/
def treeBeginningsWrong : ChangeSpec := { name := "treeBeginnings", fn := fun _ => fun
  | [d1, d2, d3, d4] => { results := [.lit (.bool false)], args := [d1, d2, d3, d4] }
  | _ => none }
def TreeBeginningsWrongFalsely : Prop := treeBeginningsRow.holds Tryd.pinned (OpenSpec.ofChange treeBeginningsWrong)

/-- 'regulatorlaw24.TreeLengths': WHATEVER THE INPUT: true; the input reads as it did. -/
def treeLengthsSpec : ChangeSpec := { name := "treeLengths", fn := fun _ => fun
  | [d1, d2, d3, d4] => { results := [.lit (.bool true)], args := [d1, d2, d3, d4] }
  | _ => none }
def treeLengthsRow : OpenClaim := { program := "ytijnjgjpmgmifaadoor", sum := "0aa025bce6a103fb9d5c130512e4e7429d6f7d90b75d2fb99a087bc967b23045", func := "regulator/regulatorlaw24.TreeLengths", spec := "treeLengths", inPlace := ["slices.overlaps[uint64]"], unfollowed := true, recurses := true, named := ["internal/strconv.uint64pow10", "math/bits.deBruijn32tab", "math/bits.deBruijn64tab"], apart := false, laid := [("math/bits.deBruijn32tab", laid_math_bits_deBruijn32tab), ("math/bits.deBruijn64tab", laid_math_bits_deBruijn64tab), ("internal/strconv.uint64pow10", laid_internal_strconv_uint64pow10)] }
def TreeLengthsSaid : Prop := treeLengthsRow.holds Tryd.pinned (OpenSpec.ofChange treeLengthsSpec)

/-- ITS FALSE NEIGHBOUR: 'it returns false'. Refute it at one input. -/
def treeLengthsWrong : ChangeSpec := { name := "treeLengths", fn := fun _ => fun
  | [d1, d2, d3, d4] => { results := [.lit (.bool false)], args := [d1, d2, d3, d4] }
  | _ => none }
def TreeLengthsWrongFalsely : Prop := treeLengthsRow.holds Tryd.pinned (OpenSpec.ofChange treeLengthsWrong)

/-- 'regulatorlaw24.TreeOthers': WHATEVER THE INPUT: true; the input reads as it did. -/
def treeOthersSpec : ChangeSpec := { name := "treeOthers", fn := fun _ => fun
  | [d1, d2, d3] => { results := [.lit (.bool true)], args := [d1, d2, d3] }
  | _ => none }
def treeOthersRow : OpenClaim := { program := "ytijnjgjpmgmifaadoor", sum := "0aa025bce6a103fb9d5c130512e4e7429d6f7d90b75d2fb99a087bc967b23045", func := "regulator/regulatorlaw24.TreeOthers", spec := "treeOthers", inPlace := ["slices.overlaps[uint64]"], unfollowed := true, recurses := true, named := ["internal/strconv.uint64pow10", "math/bits.deBruijn32tab", "math/bits.deBruijn64tab"], apart := false, laid := [("math/bits.deBruijn32tab", laid_math_bits_deBruijn32tab), ("math/bits.deBruijn64tab", laid_math_bits_deBruijn64tab), ("internal/strconv.uint64pow10", laid_internal_strconv_uint64pow10)] }
def TreeOthersSaid : Prop := treeOthersRow.holds Tryd.pinned (OpenSpec.ofChange treeOthersSpec)

/-- ITS FALSE NEIGHBOUR: 'it returns false'. Refute it at one input. -/
def treeOthersWrong : ChangeSpec := { name := "treeOthers", fn := fun _ => fun
  | [d1, d2, d3] => { results := [.lit (.bool false)], args := [d1, d2, d3] }
  | _ => none }
def TreeOthersWrongFalsely : Prop := treeOthersRow.holds Tryd.pinned (OpenSpec.ofChange treeOthersWrong)

/- THE SECOND FORM. 'bulk': how many values and letters a reading holds, each counted each time it is reached (what is shared counts as often as it is met; a slice's spare places count too). A statement '..UptoSaid' is the law's where the arguments, and the package variables that the reading takes, are together of bulk at most 1048576: NARROWER than '..Said'. Prove '..Said' where nothing that the law and all that it calls make is longer than what came in: it says more and counts as full. Else prove '..UptoSaid'. A law counts once. -/
mutual
def uptoBulk {H : Type} : DataW H → Nat
  | .lit (.string bytes) => bytes.length + 1
  | .lit _ => 1
  | .nil => 1
  | .ptr d => uptoBulk d + 1
  | .slice elems spare => uptoBulkAll elems + uptoBulkAll spare + 1
  | .agg parts => uptoBulkAll parts + 1
  | .iface _ d => uptoBulk d + 1
  | .map entries => uptoBulkEntries entries + 1
  | .held _ => 1
def uptoBulkAll {H : Type} : List (DataW H) → Nat
  | [] => 0
  | d :: r => uptoBulk d + uptoBulkAll r
def uptoBulkEntries {H : Type} : List (Lit × DataW H) → Nat
  | [] => 0
  | x :: r => uptoBulkEntry x + uptoBulkEntries r
def uptoBulkEntry {H : Type} : Lit × DataW H → Nat
  | (.string bytes, d) => bytes.length + uptoBulk d + 1
  | (_, d) => uptoBulk d + 1
 end
def uptoSmall : (H : Type) → List (DataW H) → Bool := fun _ ds => decide (uptoBulkAll ds ≤ 1048576)
def OpenSpec.upto (s : _root_.Go.ChangeSpec) : _root_.Go.OpenSpec := { _root_.Go.OpenSpec.ofChange s with cond := some uptoSmall }

/-- 'regulatorlaw24.TreeMatchesReference', WHERE WHAT IT READS IS OF BULK AT MOST 1048576: true; the input reads as it did. -/
def treeMatchesReferenceUptoRow : OpenClaim := { program := "ytijnjgjpmgmifaadoor", sum := "0aa025bce6a103fb9d5c130512e4e7429d6f7d90b75d2fb99a087bc967b23045", func := "regulator/regulatorlaw24.TreeMatchesReference", spec := "treeMatchesReference", inPlace := ["slices.overlaps[uint64]"], unfollowed := true, recurses := true, named := ["internal/strconv.uint64pow10", "math/bits.deBruijn32tab", "math/bits.deBruijn64tab"], apart := false, laid := [("math/bits.deBruijn32tab", laid_math_bits_deBruijn32tab), ("math/bits.deBruijn64tab", laid_math_bits_deBruijn64tab), ("internal/strconv.uint64pow10", laid_internal_strconv_uint64pow10)], narrowed := true }
def TreeMatchesReferenceUptoSaid : Prop := treeMatchesReferenceUptoRow.holds Tryd.pinned (OpenSpec.upto treeMatchesReferenceSpec)

/-- 'regulatorlaw24.TreeShape', WHERE WHAT IT READS IS OF BULK AT MOST 1048576: true; the input reads as it did. -/
def treeShapeUptoRow : OpenClaim := { program := "ytijnjgjpmgmifaadoor", sum := "0aa025bce6a103fb9d5c130512e4e7429d6f7d90b75d2fb99a087bc967b23045", func := "regulator/regulatorlaw24.TreeShape", spec := "treeShape", inPlace := ["slices.overlaps[uint64]"], unfollowed := true, recurses := true, named := ["internal/strconv.uint64pow10", "math/bits.deBruijn32tab", "math/bits.deBruijn64tab"], apart := false, laid := [("math/bits.deBruijn32tab", laid_math_bits_deBruijn32tab), ("math/bits.deBruijn64tab", laid_math_bits_deBruijn64tab), ("internal/strconv.uint64pow10", laid_internal_strconv_uint64pow10)], narrowed := true }
def TreeShapeUptoSaid : Prop := treeShapeUptoRow.holds Tryd.pinned (OpenSpec.upto treeShapeSpec)

/-- 'regulatorlaw24.TreeIncludes', WHERE WHAT IT READS IS OF BULK AT MOST 1048576: true; the input reads as it did. -/
def treeIncludesUptoRow : OpenClaim := { program := "ytijnjgjpmgmifaadoor", sum := "0aa025bce6a103fb9d5c130512e4e7429d6f7d90b75d2fb99a087bc967b23045", func := "regulator/regulatorlaw24.TreeIncludes", spec := "treeIncludes", inPlace := ["slices.overlaps[uint64]"], unfollowed := true, recurses := true, named := ["internal/strconv.uint64pow10", "math/bits.deBruijn32tab", "math/bits.deBruijn64tab"], apart := false, laid := [("math/bits.deBruijn32tab", laid_math_bits_deBruijn32tab), ("math/bits.deBruijn64tab", laid_math_bits_deBruijn64tab), ("internal/strconv.uint64pow10", laid_internal_strconv_uint64pow10)], narrowed := true }
def TreeIncludesUptoSaid : Prop := treeIncludesUptoRow.holds Tryd.pinned (OpenSpec.upto treeIncludesSpec)

/-- 'regulatorlaw24.TreeExtends', WHERE WHAT IT READS IS OF BULK AT MOST 1048576: true; the input reads as it did. -/
def treeExtendsUptoRow : OpenClaim := { program := "ytijnjgjpmgmifaadoor", sum := "0aa025bce6a103fb9d5c130512e4e7429d6f7d90b75d2fb99a087bc967b23045", func := "regulator/regulatorlaw24.TreeExtends", spec := "treeExtends", inPlace := ["slices.overlaps[uint64]"], unfollowed := true, recurses := true, named := ["internal/strconv.uint64pow10", "math/bits.deBruijn32tab", "math/bits.deBruijn64tab"], apart := false, laid := [("math/bits.deBruijn32tab", laid_math_bits_deBruijn32tab), ("math/bits.deBruijn64tab", laid_math_bits_deBruijn64tab), ("internal/strconv.uint64pow10", laid_internal_strconv_uint64pow10)], narrowed := true }
def TreeExtendsUptoSaid : Prop := treeExtendsUptoRow.holds Tryd.pinned (OpenSpec.upto treeExtendsSpec)

/-- 'regulatorlaw24.TreeBeginnings', WHERE WHAT IT READS IS OF BULK AT MOST 1048576: true; the input reads as it did. -/
def treeBeginningsUptoRow : OpenClaim := { program := "ytijnjgjpmgmifaadoor", sum := "0aa025bce6a103fb9d5c130512e4e7429d6f7d90b75d2fb99a087bc967b23045", func := "regulator/regulatorlaw24.TreeBeginnings", spec := "treeBeginnings", inPlace := ["slices.overlaps[uint64]"], unfollowed := true, recurses := true, named := ["internal/strconv.uint64pow10", "math/bits.deBruijn32tab", "math/bits.deBruijn64tab"], apart := false, laid := [("math/bits.deBruijn32tab", laid_math_bits_deBruijn32tab), ("math/bits.deBruijn64tab", laid_math_bits_deBruijn64tab), ("internal/strconv.uint64pow10", laid_internal_strconv_uint64pow10)], narrowed := true }
def TreeBeginningsUptoSaid : Prop := treeBeginningsUptoRow.holds Tryd.pinned (OpenSpec.upto treeBeginningsSpec)

/-- 'regulatorlaw24.TreeLengths', WHERE WHAT IT READS IS OF BULK AT MOST 1048576: true; the input reads as it did. -/
def treeLengthsUptoRow : OpenClaim := { program := "ytijnjgjpmgmifaadoor", sum := "0aa025bce6a103fb9d5c130512e4e7429d6f7d90b75d2fb99a087bc967b23045", func := "regulator/regulatorlaw24.TreeLengths", spec := "treeLengths", inPlace := ["slices.overlaps[uint64]"], unfollowed := true, recurses := true, named := ["internal/strconv.uint64pow10", "math/bits.deBruijn32tab", "math/bits.deBruijn64tab"], apart := false, laid := [("math/bits.deBruijn32tab", laid_math_bits_deBruijn32tab), ("math/bits.deBruijn64tab", laid_math_bits_deBruijn64tab), ("internal/strconv.uint64pow10", laid_internal_strconv_uint64pow10)], narrowed := true }
def TreeLengthsUptoSaid : Prop := treeLengthsUptoRow.holds Tryd.pinned (OpenSpec.upto treeLengthsSpec)

/-- 'regulatorlaw24.TreeOthers', WHERE WHAT IT READS IS OF BULK AT MOST 1048576: true; the input reads as it did. -/
def treeOthersUptoRow : OpenClaim := { program := "ytijnjgjpmgmifaadoor", sum := "0aa025bce6a103fb9d5c130512e4e7429d6f7d90b75d2fb99a087bc967b23045", func := "regulator/regulatorlaw24.TreeOthers", spec := "treeOthers", inPlace := ["slices.overlaps[uint64]"], unfollowed := true, recurses := true, named := ["internal/strconv.uint64pow10", "math/bits.deBruijn32tab", "math/bits.deBruijn64tab"], apart := false, laid := [("math/bits.deBruijn32tab", laid_math_bits_deBruijn32tab), ("math/bits.deBruijn64tab", laid_math_bits_deBruijn64tab), ("internal/strconv.uint64pow10", laid_internal_strconv_uint64pow10)], narrowed := true }
def TreeOthersUptoSaid : Prop := treeOthersUptoRow.holds Tryd.pinned (OpenSpec.upto treeOthersSpec)

end Rows
end Go.Proofs.YtijnjgjpmgmifaaDoor
