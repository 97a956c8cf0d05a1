/-
  NARROWER THAN 'FOR EVERY INPUT', by the rows' own cells (each row's printed sentence says how): DnfExpand: laid · DnfExpandAny: laid · DnfDistributes: laid · DnfSplit: laid · DnfValid: laid · DnfCanonical: laid · DnfBranches: laid.
  DERIVED. THE GIVEN ROWS OF THIS SEAT. 7 by the template 'for every input the law returns true; each argument reads behind the call as it read before'; 0 by the template 'total and deterministic' (their statements: YtpgfpakdnijngaaGreatDoorTotals.lean).
  GIVEN WITH THE SEED: the statements are not yours to turn. If you find one false, say at which input.
  Laid BY PROGRAM, IN A SANDBOX (cutbox-rows.mjs): the forced cells as the released guide's own fill.sh prints them over the translation e9f3ccb10a81e9fc… (all of the seat's roots in one cut). By AI agents, Wed Nov 11 2026. No macro, syntax, notation, axiom, sorry.
-/
import Derived.Test.YtpgfpakdnijngaaGreatDoorChecked
import GoSem.Claim
import GoSem.ClaimJoined
import GoSem.ClaimMapViews
import Derived.JoinedTies
import Derived.KernelRfl
namespace Go.Proofs.YtpgfpakdnijngaaGreatDoor
/- THE CELL 'sum', in the pinned program and in every row, IS THE sha256 OF THE DUMP (.gsa) THAT YtpgfpakdnijngaaGreatDoorProg.lean LOADS. Nothing in Lean hashes anything: it is a label: what it is worth is what the hold of that sum in a sandbox is worth. -/
noncomputable def Tryz.pinned : Pinned := { name := "ytpgfpakdnijngaagreatdoor", sum := "e9f3ccb10a81e9fce01a2b7510ac20d0bb7c9470df5f925c64b23faa241080ed", checked := Tryz.checked }
namespace Rows
def none {H : Type} : Left H := { results := [], args := [] }

/- WHAT THE LISTED PACKAGE-LEVEL VARIABLES READ AS WHEN THE CALL BEGINS. Each datum BY PROGRAM (the guide's laid-datum.mjs) off the statement by which the dump's own 'gosem.cut.vars' lays the variable. In a bare row this is a premise. The card (YtpgfpakdnijngaaGreatDoorCards.lean) ties it to the program's text. -/
def laid_math_bits_deBruijn32tab {H : Type} : DataW H := .agg [.lit (.int .u8 0), .lit (.int .u8 1), .lit (.int .u8 28), .lit (.int .u8 2), .lit (.int .u8 29), .lit (.int .u8 14), .lit (.int .u8 24), .lit (.int .u8 3), .lit (.int .u8 30), .lit (.int .u8 22), .lit (.int .u8 20), .lit (.int .u8 15), .lit (.int .u8 25), .lit (.int .u8 17), .lit (.int .u8 4), .lit (.int .u8 8), .lit (.int .u8 31), .lit (.int .u8 27), .lit (.int .u8 13), .lit (.int .u8 23), .lit (.int .u8 21), .lit (.int .u8 19), .lit (.int .u8 16), .lit (.int .u8 7), .lit (.int .u8 26), .lit (.int .u8 12), .lit (.int .u8 18), .lit (.int .u8 6), .lit (.int .u8 11), .lit (.int .u8 5), .lit (.int .u8 10), .lit (.int .u8 9)]
def laid_math_bits_deBruijn64tab {H : Type} : DataW H := .agg [.lit (.int .u8 0), .lit (.int .u8 1), .lit (.int .u8 56), .lit (.int .u8 2), .lit (.int .u8 57), .lit (.int .u8 49), .lit (.int .u8 28), .lit (.int .u8 3), .lit (.int .u8 61), .lit (.int .u8 58), .lit (.int .u8 42), .lit (.int .u8 50), .lit (.int .u8 38), .lit (.int .u8 29), .lit (.int .u8 17), .lit (.int .u8 4), .lit (.int .u8 62), .lit (.int .u8 47), .lit (.int .u8 59), .lit (.int .u8 36), .lit (.int .u8 45), .lit (.int .u8 43), .lit (.int .u8 51), .lit (.int .u8 22), .lit (.int .u8 53), .lit (.int .u8 39), .lit (.int .u8 33), .lit (.int .u8 30), .lit (.int .u8 24), .lit (.int .u8 18), .lit (.int .u8 12), .lit (.int .u8 5), .lit (.int .u8 63), .lit (.int .u8 55), .lit (.int .u8 48), .lit (.int .u8 27), .lit (.int .u8 60), .lit (.int .u8 41), .lit (.int .u8 37), .lit (.int .u8 16), .lit (.int .u8 46), .lit (.int .u8 35), .lit (.int .u8 44), .lit (.int .u8 21), .lit (.int .u8 52), .lit (.int .u8 32), .lit (.int .u8 23), .lit (.int .u8 11), .lit (.int .u8 54), .lit (.int .u8 26), .lit (.int .u8 40), .lit (.int .u8 15), .lit (.int .u8 34), .lit (.int .u8 20), .lit (.int .u8 31), .lit (.int .u8 10), .lit (.int .u8 25), .lit (.int .u8 14), .lit (.int .u8 19), .lit (.int .u8 9), .lit (.int .u8 13), .lit (.int .u8 8), .lit (.int .u8 7), .lit (.int .u8 6)]
def laid_internal_strconv_uint64pow10 {H : Type} : DataW H := .agg [.lit (.int .u64 1), .lit (.int .u64 10), .lit (.int .u64 100), .lit (.int .u64 1000), .lit (.int .u64 10000), .lit (.int .u64 100000), .lit (.int .u64 1000000), .lit (.int .u64 10000000), .lit (.int .u64 100000000), .lit (.int .u64 1000000000), .lit (.int .u64 10000000000), .lit (.int .u64 100000000000), .lit (.int .u64 1000000000000), .lit (.int .u64 10000000000000), .lit (.int .u64 100000000000000), .lit (.int .u64 1000000000000000), .lit (.int .u64 10000000000000000), .lit (.int .u64 100000000000000000), .lit (.int .u64 1000000000000000000), .lit (.int .u64 10000000000000000000)]
def laid_strconv_ErrRange {H : Type} : DataW H := .iface "*errors.errorString" (.ptr (.agg [.lit (.string [118, 97, 108, 117, 101, 32, 111, 117, 116, 32, 111, 102, 32, 114, 97, 110, 103, 101])]))
def laid_strconv_ErrSyntax {H : Type} : DataW H := .iface "*errors.errorString" (.ptr (.agg [.lit (.string [105, 110, 118, 97, 108, 105, 100, 32, 115, 121, 110, 116, 97, 120])]))
def laid_telpher_typeterm_reserved {H : Type} : DataW H := .slice [.lit (.string [65, 110, 121]), .lit (.string [78, 101, 118, 101, 114]), .lit (.string [116, 117, 112, 108, 101]), .lit (.string [117, 110, 105, 111, 110]), .lit (.string [101, 120, 105, 115, 116, 115])] []
def laid_telpher_telmake_leafNames {H : Type} : DataW H := .slice [.lit (.string [73, 110, 116]), .lit (.string [66, 111, 111, 108]), .lit (.string [83, 116, 114, 105, 110, 103]), .lit (.string [78, 105, 108])] []
def laid_telpher_telmake_anyNames {H : Type} : DataW H := .slice [.lit (.string [66, 111, 120]), .lit (.string [73, 110, 116]), .lit (.string [80, 97, 105, 114]), .lit (.string [65]), .lit (.string [120, 95, 49]), .lit (.string []), .lit (.string [116, 117, 112, 108, 101]), .lit (.string [65, 110, 121]), .lit (.string [49, 120]), .lit (.string [97, 45, 98]), .lit (.string [97, 98, 99, 100, 101, 102, 103, 104, 105, 106, 107, 108, 109, 110, 111, 112, 113, 114, 115, 116, 117, 118, 119, 120, 121])] []

/-- 'tellaw4.DnfExpand': WHATEVER THE INPUT: true; the input reads as it did. -/
def dnfExpandSpec : ChangeSpec := { name := "dnfExpand", fn := fun _ => fun
  | [d1, d2] => { results := [.lit (.bool true)], args := [d1, d2] }
  | _ => none }
def dnfExpandRow : OpenClaim := { program := "ytpgfpakdnijngaagreatdoor", sum := "e9f3ccb10a81e9fce01a2b7510ac20d0bb7c9470df5f925c64b23faa241080ed", func := "telpher/tellaw4.DnfExpand", spec := "dnfExpand", inPlace := ["slices.overlaps[int]"], unfollowed := true, recurses := true, named := ["telpher/telmake.leafNames", "telpher/typeterm.reserved", "internal/strconv.uint64pow10", "math/bits.deBruijn32tab", "math/bits.deBruijn64tab", "strconv.ErrSyntax", "strconv.ErrRange"], apart := false, laid := [("math/bits.deBruijn32tab", laid_math_bits_deBruijn32tab), ("math/bits.deBruijn64tab", laid_math_bits_deBruijn64tab), ("internal/strconv.uint64pow10", laid_internal_strconv_uint64pow10), ("strconv.ErrRange", laid_strconv_ErrRange), ("strconv.ErrSyntax", laid_strconv_ErrSyntax), ("telpher/typeterm.reserved", laid_telpher_typeterm_reserved), ("telpher/telmake.leafNames", laid_telpher_telmake_leafNames)] }
def DnfExpandSaid : Prop := dnfExpandRow.holds Tryz.pinned (OpenSpec.ofChange dnfExpandSpec)

/-- ITS FALSE NEIGHBOUR: 'it returns false'. Refute it at one input. -/
def dnfExpandWrong : ChangeSpec := { name := "dnfExpand", fn := fun _ => fun
  | [d1, d2] => { results := [.lit (.bool false)], args := [d1, d2] }
  | _ => none }
def DnfExpandWrongFalsely : Prop := dnfExpandRow.holds Tryz.pinned (OpenSpec.ofChange dnfExpandWrong)

/-- 'tellaw4.DnfExpandAny': WHATEVER THE INPUT: true; the input reads as it did. -/
def dnfExpandAnySpec : ChangeSpec := { name := "dnfExpandAny", fn := fun _ => fun
  | [d] => { results := [.lit (.bool true)], args := [d] }
  | _ => none }
def dnfExpandAnyRow : OpenClaim := { program := "ytpgfpakdnijngaagreatdoor", sum := "e9f3ccb10a81e9fce01a2b7510ac20d0bb7c9470df5f925c64b23faa241080ed", func := "telpher/tellaw4.DnfExpandAny", spec := "dnfExpandAny", inPlace := ["slices.overlaps[int]"], unfollowed := true, recurses := true, named := ["telpher/telmake.anyNames", "telpher/typeterm.reserved", "internal/strconv.uint64pow10", "math/bits.deBruijn32tab", "math/bits.deBruijn64tab", "strconv.ErrSyntax", "strconv.ErrRange"], apart := false, laid := [("math/bits.deBruijn32tab", laid_math_bits_deBruijn32tab), ("math/bits.deBruijn64tab", laid_math_bits_deBruijn64tab), ("internal/strconv.uint64pow10", laid_internal_strconv_uint64pow10), ("strconv.ErrRange", laid_strconv_ErrRange), ("strconv.ErrSyntax", laid_strconv_ErrSyntax), ("telpher/typeterm.reserved", laid_telpher_typeterm_reserved), ("telpher/telmake.anyNames", laid_telpher_telmake_anyNames)] }
def DnfExpandAnySaid : Prop := dnfExpandAnyRow.holds Tryz.pinned (OpenSpec.ofChange dnfExpandAnySpec)

/-- ITS FALSE NEIGHBOUR: 'it returns false'. Refute it at one input. -/
def dnfExpandAnyWrong : ChangeSpec := { name := "dnfExpandAny", fn := fun _ => fun
  | [d] => { results := [.lit (.bool false)], args := [d] }
  | _ => none }
def DnfExpandAnyWrongFalsely : Prop := dnfExpandAnyRow.holds Tryz.pinned (OpenSpec.ofChange dnfExpandAnyWrong)

/-- 'tellaw4.DnfDistributes': WHATEVER THE INPUT: true; the input reads as it did. -/
def dnfDistributesSpec : ChangeSpec := { name := "dnfDistributes", fn := fun _ => fun
  | [d1, d2] => { results := [.lit (.bool true)], args := [d1, d2] }
  | _ => none }
def dnfDistributesRow : OpenClaim := { program := "ytpgfpakdnijngaagreatdoor", sum := "e9f3ccb10a81e9fce01a2b7510ac20d0bb7c9470df5f925c64b23faa241080ed", func := "telpher/tellaw4.DnfDistributes", spec := "dnfDistributes", inPlace := ["slices.overlaps[int]"], unfollowed := true, recurses := true, named := ["telpher/telmake.leafNames", "telpher/typeterm.reserved", "internal/strconv.uint64pow10", "math/bits.deBruijn32tab", "math/bits.deBruijn64tab", "strconv.ErrSyntax", "strconv.ErrRange"], apart := false, laid := [("math/bits.deBruijn32tab", laid_math_bits_deBruijn32tab), ("math/bits.deBruijn64tab", laid_math_bits_deBruijn64tab), ("internal/strconv.uint64pow10", laid_internal_strconv_uint64pow10), ("strconv.ErrRange", laid_strconv_ErrRange), ("strconv.ErrSyntax", laid_strconv_ErrSyntax), ("telpher/typeterm.reserved", laid_telpher_typeterm_reserved), ("telpher/telmake.leafNames", laid_telpher_telmake_leafNames)] }
def DnfDistributesSaid : Prop := dnfDistributesRow.holds Tryz.pinned (OpenSpec.ofChange dnfDistributesSpec)

/-- ITS FALSE NEIGHBOUR: 'it returns false'. Refute it at one input. -/
def dnfDistributesWrong : ChangeSpec := { name := "dnfDistributes", fn := fun _ => fun
  | [d1, d2] => { results := [.lit (.bool false)], args := [d1, d2] }
  | _ => none }
def DnfDistributesWrongFalsely : Prop := dnfDistributesRow.holds Tryz.pinned (OpenSpec.ofChange dnfDistributesWrong)

/-- 'tellaw4.DnfSplit': WHATEVER THE INPUT: true; the input reads as it did. -/
def dnfSplitSpec : ChangeSpec := { name := "dnfSplit", fn := fun _ => fun
  | [d1, d2, d3] => { results := [.lit (.bool true)], args := [d1, d2, d3] }
  | _ => none }
def dnfSplitRow : OpenClaim := { program := "ytpgfpakdnijngaagreatdoor", sum := "e9f3ccb10a81e9fce01a2b7510ac20d0bb7c9470df5f925c64b23faa241080ed", func := "telpher/tellaw4.DnfSplit", spec := "dnfSplit", inPlace := ["slices.overlaps[int]"], unfollowed := true, recurses := true, named := ["telpher/telmake.leafNames", "telpher/typeterm.reserved", "internal/strconv.uint64pow10", "math/bits.deBruijn32tab", "math/bits.deBruijn64tab", "strconv.ErrSyntax", "strconv.ErrRange"], apart := false, laid := [("math/bits.deBruijn32tab", laid_math_bits_deBruijn32tab), ("math/bits.deBruijn64tab", laid_math_bits_deBruijn64tab), ("internal/strconv.uint64pow10", laid_internal_strconv_uint64pow10), ("strconv.ErrRange", laid_strconv_ErrRange), ("strconv.ErrSyntax", laid_strconv_ErrSyntax), ("telpher/typeterm.reserved", laid_telpher_typeterm_reserved), ("telpher/telmake.leafNames", laid_telpher_telmake_leafNames)] }
def DnfSplitSaid : Prop := dnfSplitRow.holds Tryz.pinned (OpenSpec.ofChange dnfSplitSpec)

/-- ITS FALSE NEIGHBOUR: 'it returns false'. Refute it at one input. -/
def dnfSplitWrong : ChangeSpec := { name := "dnfSplit", fn := fun _ => fun
  | [d1, d2, d3] => { results := [.lit (.bool false)], args := [d1, d2, d3] }
  | _ => none }
def DnfSplitWrongFalsely : Prop := dnfSplitRow.holds Tryz.pinned (OpenSpec.ofChange dnfSplitWrong)

/-- 'tellaw4.DnfValid': WHATEVER THE INPUT: true; the input reads as it did. -/
def dnfValidSpec : ChangeSpec := { name := "dnfValid", fn := fun _ => fun
  | [d1, d2, d3, d4, d5] => { results := [.lit (.bool true)], args := [d1, d2, d3, d4, d5] }
  | _ => none }
def dnfValidRow : OpenClaim := { program := "ytpgfpakdnijngaagreatdoor", sum := "e9f3ccb10a81e9fce01a2b7510ac20d0bb7c9470df5f925c64b23faa241080ed", func := "telpher/tellaw4.DnfValid", spec := "dnfValid", inPlace := ["slices.overlaps[int]"], unfollowed := true, recurses := true, named := ["telpher/telmake.leafNames", "telpher/typeterm.reserved", "internal/strconv.uint64pow10", "math/bits.deBruijn32tab", "math/bits.deBruijn64tab", "strconv.ErrSyntax", "strconv.ErrRange"], apart := false, laid := [("math/bits.deBruijn32tab", laid_math_bits_deBruijn32tab), ("math/bits.deBruijn64tab", laid_math_bits_deBruijn64tab), ("internal/strconv.uint64pow10", laid_internal_strconv_uint64pow10), ("strconv.ErrRange", laid_strconv_ErrRange), ("strconv.ErrSyntax", laid_strconv_ErrSyntax), ("telpher/typeterm.reserved", laid_telpher_typeterm_reserved), ("telpher/telmake.leafNames", laid_telpher_telmake_leafNames)] }
def DnfValidSaid : Prop := dnfValidRow.holds Tryz.pinned (OpenSpec.ofChange dnfValidSpec)

/-- ITS FALSE NEIGHBOUR: 'it returns false'. Refute it at one input. -/
def dnfValidWrong : ChangeSpec := { name := "dnfValid", fn := fun _ => fun
  | [d1, d2, d3, d4, d5] => { results := [.lit (.bool false)], args := [d1, d2, d3, d4, d5] }
  | _ => none }
def DnfValidWrongFalsely : Prop := dnfValidRow.holds Tryz.pinned (OpenSpec.ofChange dnfValidWrong)

/-- 'tellaw4.DnfCanonical': WHATEVER THE INPUT: true; the input reads as it did. -/
def dnfCanonicalSpec : ChangeSpec := { name := "dnfCanonical", fn := fun _ => fun
  | [d] => { results := [.lit (.bool true)], args := [d] }
  | _ => none }
def dnfCanonicalRow : OpenClaim := { program := "ytpgfpakdnijngaagreatdoor", sum := "e9f3ccb10a81e9fce01a2b7510ac20d0bb7c9470df5f925c64b23faa241080ed", func := "telpher/tellaw4.DnfCanonical", spec := "dnfCanonical", inPlace := ["slices.overlaps[int]"], unfollowed := true, recurses := true, named := ["telpher/telmake.leafNames", "telpher/typeterm.reserved", "internal/strconv.uint64pow10", "math/bits.deBruijn32tab", "math/bits.deBruijn64tab", "strconv.ErrSyntax", "strconv.ErrRange"], apart := false, laid := [("math/bits.deBruijn32tab", laid_math_bits_deBruijn32tab), ("math/bits.deBruijn64tab", laid_math_bits_deBruijn64tab), ("internal/strconv.uint64pow10", laid_internal_strconv_uint64pow10), ("strconv.ErrRange", laid_strconv_ErrRange), ("strconv.ErrSyntax", laid_strconv_ErrSyntax), ("telpher/typeterm.reserved", laid_telpher_typeterm_reserved), ("telpher/telmake.leafNames", laid_telpher_telmake_leafNames)] }
def DnfCanonicalSaid : Prop := dnfCanonicalRow.holds Tryz.pinned (OpenSpec.ofChange dnfCanonicalSpec)

/-- ITS FALSE NEIGHBOUR: 'it returns false'. Refute it at one input. -/
def dnfCanonicalWrong : ChangeSpec := { name := "dnfCanonical", fn := fun _ => fun
  | [d] => { results := [.lit (.bool false)], args := [d] }
  | _ => none }
def DnfCanonicalWrongFalsely : Prop := dnfCanonicalRow.holds Tryz.pinned (OpenSpec.ofChange dnfCanonicalWrong)

/-- 'tellaw4.DnfBranches': WHATEVER THE INPUT: true; the input reads as it did. -/
def dnfBranchesSpec : ChangeSpec := { name := "dnfBranches", fn := fun _ => fun
  | [d1, d2, d3] => { results := [.lit (.bool true)], args := [d1, d2, d3] }
  | _ => none }
def dnfBranchesRow : OpenClaim := { program := "ytpgfpakdnijngaagreatdoor", sum := "e9f3ccb10a81e9fce01a2b7510ac20d0bb7c9470df5f925c64b23faa241080ed", func := "telpher/tellaw4.DnfBranches", spec := "dnfBranches", inPlace := ["slices.overlaps[int]"], unfollowed := true, recurses := true, named := ["telpher/telmake.leafNames", "telpher/typeterm.reserved", "internal/strconv.uint64pow10", "math/bits.deBruijn32tab", "math/bits.deBruijn64tab", "strconv.ErrSyntax", "strconv.ErrRange"], apart := false, laid := [("math/bits.deBruijn32tab", laid_math_bits_deBruijn32tab), ("math/bits.deBruijn64tab", laid_math_bits_deBruijn64tab), ("internal/strconv.uint64pow10", laid_internal_strconv_uint64pow10), ("strconv.ErrRange", laid_strconv_ErrRange), ("strconv.ErrSyntax", laid_strconv_ErrSyntax), ("telpher/typeterm.reserved", laid_telpher_typeterm_reserved), ("telpher/telmake.leafNames", laid_telpher_telmake_leafNames)] }
def DnfBranchesSaid : Prop := dnfBranchesRow.holds Tryz.pinned (OpenSpec.ofChange dnfBranchesSpec)

/-- ITS FALSE NEIGHBOUR: 'it returns false'. Refute it at one input. -/
def dnfBranchesWrong : ChangeSpec := { name := "dnfBranches", fn := fun _ => fun
  | [d1, d2, d3] => { results := [.lit (.bool false)], args := [d1, d2, d3] }
  | _ => none }
def DnfBranchesWrongFalsely : Prop := dnfBranchesRow.holds Tryz.pinned (OpenSpec.ofChange dnfBranchesWrong)

/- THE SECOND FORM. 'bulk': how many values and letters a reading holds, each counted each time it is reached (what is shared counts as often as it is met; a slice's spare places count too). A statement '..UptoSaid' is the law's where the arguments, and the package variables that the reading takes, are together of bulk at most 1048576: NARROWER than '..Said'. Prove '..Said' where nothing that the law and all that it calls make is longer than what came in: it says more and counts as full. Else prove '..UptoSaid'. A law counts once. -/
mutual
def uptoBulk {H : Type} : DataW H → Nat
  | .lit (.string bytes) => bytes.length + 1
  | .lit _ => 1
  | .nil => 1
  | .ptr d => uptoBulk d + 1
  | .slice elems spare => uptoBulkAll elems + uptoBulkAll spare + 1
  | .agg parts => uptoBulkAll parts + 1
  | .iface _ d => uptoBulk d + 1
  | .map entries => uptoBulkEntries entries + 1
  | .held _ => 1
def uptoBulkAll {H : Type} : List (DataW H) → Nat
  | [] => 0
  | d :: r => uptoBulk d + uptoBulkAll r
def uptoBulkEntries {H : Type} : List (Lit × DataW H) → Nat
  | [] => 0
  | x :: r => uptoBulkEntry x + uptoBulkEntries r
def uptoBulkEntry {H : Type} : Lit × DataW H → Nat
  | (.string bytes, d) => bytes.length + uptoBulk d + 1
  | (_, d) => uptoBulk d + 1
 end
def uptoSmall : (H : Type) → List (DataW H) → Bool := fun _ ds => decide (uptoBulkAll ds ≤ 1048576)
def OpenSpec.upto (s : _root_.Go.ChangeSpec) : _root_.Go.OpenSpec := { _root_.Go.OpenSpec.ofChange s with cond := some uptoSmall }

/-- 'tellaw4.DnfExpand', WHERE WHAT IT READS IS OF BULK AT MOST 1048576: true; the input reads as it did. -/
def dnfExpandUptoRow : OpenClaim := { program := "ytpgfpakdnijngaagreatdoor", sum := "e9f3ccb10a81e9fce01a2b7510ac20d0bb7c9470df5f925c64b23faa241080ed", func := "telpher/tellaw4.DnfExpand", spec := "dnfExpand", inPlace := ["slices.overlaps[int]"], unfollowed := true, recurses := true, named := ["telpher/telmake.leafNames", "telpher/typeterm.reserved", "internal/strconv.uint64pow10", "math/bits.deBruijn32tab", "math/bits.deBruijn64tab", "strconv.ErrSyntax", "strconv.ErrRange"], apart := false, laid := [("math/bits.deBruijn32tab", laid_math_bits_deBruijn32tab), ("math/bits.deBruijn64tab", laid_math_bits_deBruijn64tab), ("internal/strconv.uint64pow10", laid_internal_strconv_uint64pow10), ("strconv.ErrRange", laid_strconv_ErrRange), ("strconv.ErrSyntax", laid_strconv_ErrSyntax), ("telpher/typeterm.reserved", laid_telpher_typeterm_reserved), ("telpher/telmake.leafNames", laid_telpher_telmake_leafNames)], narrowed := true }
def DnfExpandUptoSaid : Prop := dnfExpandUptoRow.holds Tryz.pinned (OpenSpec.upto dnfExpandSpec)

/-- 'tellaw4.DnfExpandAny', WHERE WHAT IT READS IS OF BULK AT MOST 1048576: true; the input reads as it did. -/
def dnfExpandAnyUptoRow : OpenClaim := { program := "ytpgfpakdnijngaagreatdoor", sum := "e9f3ccb10a81e9fce01a2b7510ac20d0bb7c9470df5f925c64b23faa241080ed", func := "telpher/tellaw4.DnfExpandAny", spec := "dnfExpandAny", inPlace := ["slices.overlaps[int]"], unfollowed := true, recurses := true, named := ["telpher/telmake.anyNames", "telpher/typeterm.reserved", "internal/strconv.uint64pow10", "math/bits.deBruijn32tab", "math/bits.deBruijn64tab", "strconv.ErrSyntax", "strconv.ErrRange"], apart := false, laid := [("math/bits.deBruijn32tab", laid_math_bits_deBruijn32tab), ("math/bits.deBruijn64tab", laid_math_bits_deBruijn64tab), ("internal/strconv.uint64pow10", laid_internal_strconv_uint64pow10), ("strconv.ErrRange", laid_strconv_ErrRange), ("strconv.ErrSyntax", laid_strconv_ErrSyntax), ("telpher/typeterm.reserved", laid_telpher_typeterm_reserved), ("telpher/telmake.anyNames", laid_telpher_telmake_anyNames)], narrowed := true }
def DnfExpandAnyUptoSaid : Prop := dnfExpandAnyUptoRow.holds Tryz.pinned (OpenSpec.upto dnfExpandAnySpec)

/-- 'tellaw4.DnfDistributes', WHERE WHAT IT READS IS OF BULK AT MOST 1048576: true; the input reads as it did. -/
def dnfDistributesUptoRow : OpenClaim := { program := "ytpgfpakdnijngaagreatdoor", sum := "e9f3ccb10a81e9fce01a2b7510ac20d0bb7c9470df5f925c64b23faa241080ed", func := "telpher/tellaw4.DnfDistributes", spec := "dnfDistributes", inPlace := ["slices.overlaps[int]"], unfollowed := true, recurses := true, named := ["telpher/telmake.leafNames", "telpher/typeterm.reserved", "internal/strconv.uint64pow10", "math/bits.deBruijn32tab", "math/bits.deBruijn64tab", "strconv.ErrSyntax", "strconv.ErrRange"], apart := false, laid := [("math/bits.deBruijn32tab", laid_math_bits_deBruijn32tab), ("math/bits.deBruijn64tab", laid_math_bits_deBruijn64tab), ("internal/strconv.uint64pow10", laid_internal_strconv_uint64pow10), ("strconv.ErrRange", laid_strconv_ErrRange), ("strconv.ErrSyntax", laid_strconv_ErrSyntax), ("telpher/typeterm.reserved", laid_telpher_typeterm_reserved), ("telpher/telmake.leafNames", laid_telpher_telmake_leafNames)], narrowed := true }
def DnfDistributesUptoSaid : Prop := dnfDistributesUptoRow.holds Tryz.pinned (OpenSpec.upto dnfDistributesSpec)

/-- 'tellaw4.DnfSplit', WHERE WHAT IT READS IS OF BULK AT MOST 1048576: true; the input reads as it did. -/
def dnfSplitUptoRow : OpenClaim := { program := "ytpgfpakdnijngaagreatdoor", sum := "e9f3ccb10a81e9fce01a2b7510ac20d0bb7c9470df5f925c64b23faa241080ed", func := "telpher/tellaw4.DnfSplit", spec := "dnfSplit", inPlace := ["slices.overlaps[int]"], unfollowed := true, recurses := true, named := ["telpher/telmake.leafNames", "telpher/typeterm.reserved", "internal/strconv.uint64pow10", "math/bits.deBruijn32tab", "math/bits.deBruijn64tab", "strconv.ErrSyntax", "strconv.ErrRange"], apart := false, laid := [("math/bits.deBruijn32tab", laid_math_bits_deBruijn32tab), ("math/bits.deBruijn64tab", laid_math_bits_deBruijn64tab), ("internal/strconv.uint64pow10", laid_internal_strconv_uint64pow10), ("strconv.ErrRange", laid_strconv_ErrRange), ("strconv.ErrSyntax", laid_strconv_ErrSyntax), ("telpher/typeterm.reserved", laid_telpher_typeterm_reserved), ("telpher/telmake.leafNames", laid_telpher_telmake_leafNames)], narrowed := true }
def DnfSplitUptoSaid : Prop := dnfSplitUptoRow.holds Tryz.pinned (OpenSpec.upto dnfSplitSpec)

/-- 'tellaw4.DnfValid', WHERE WHAT IT READS IS OF BULK AT MOST 1048576: true; the input reads as it did. -/
def dnfValidUptoRow : OpenClaim := { program := "ytpgfpakdnijngaagreatdoor", sum := "e9f3ccb10a81e9fce01a2b7510ac20d0bb7c9470df5f925c64b23faa241080ed", func := "telpher/tellaw4.DnfValid", spec := "dnfValid", inPlace := ["slices.overlaps[int]"], unfollowed := true, recurses := true, named := ["telpher/telmake.leafNames", "telpher/typeterm.reserved", "internal/strconv.uint64pow10", "math/bits.deBruijn32tab", "math/bits.deBruijn64tab", "strconv.ErrSyntax", "strconv.ErrRange"], apart := false, laid := [("math/bits.deBruijn32tab", laid_math_bits_deBruijn32tab), ("math/bits.deBruijn64tab", laid_math_bits_deBruijn64tab), ("internal/strconv.uint64pow10", laid_internal_strconv_uint64pow10), ("strconv.ErrRange", laid_strconv_ErrRange), ("strconv.ErrSyntax", laid_strconv_ErrSyntax), ("telpher/typeterm.reserved", laid_telpher_typeterm_reserved), ("telpher/telmake.leafNames", laid_telpher_telmake_leafNames)], narrowed := true }
def DnfValidUptoSaid : Prop := dnfValidUptoRow.holds Tryz.pinned (OpenSpec.upto dnfValidSpec)

/-- 'tellaw4.DnfCanonical', WHERE WHAT IT READS IS OF BULK AT MOST 1048576: true; the input reads as it did. -/
def dnfCanonicalUptoRow : OpenClaim := { program := "ytpgfpakdnijngaagreatdoor", sum := "e9f3ccb10a81e9fce01a2b7510ac20d0bb7c9470df5f925c64b23faa241080ed", func := "telpher/tellaw4.DnfCanonical", spec := "dnfCanonical", inPlace := ["slices.overlaps[int]"], unfollowed := true, recurses := true, named := ["telpher/telmake.leafNames", "telpher/typeterm.reserved", "internal/strconv.uint64pow10", "math/bits.deBruijn32tab", "math/bits.deBruijn64tab", "strconv.ErrSyntax", "strconv.ErrRange"], apart := false, laid := [("math/bits.deBruijn32tab", laid_math_bits_deBruijn32tab), ("math/bits.deBruijn64tab", laid_math_bits_deBruijn64tab), ("internal/strconv.uint64pow10", laid_internal_strconv_uint64pow10), ("strconv.ErrRange", laid_strconv_ErrRange), ("strconv.ErrSyntax", laid_strconv_ErrSyntax), ("telpher/typeterm.reserved", laid_telpher_typeterm_reserved), ("telpher/telmake.leafNames", laid_telpher_telmake_leafNames)], narrowed := true }
def DnfCanonicalUptoSaid : Prop := dnfCanonicalUptoRow.holds Tryz.pinned (OpenSpec.upto dnfCanonicalSpec)

/-- 'tellaw4.DnfBranches', WHERE WHAT IT READS IS OF BULK AT MOST 1048576: true; the input reads as it did. -/
def dnfBranchesUptoRow : OpenClaim := { program := "ytpgfpakdnijngaagreatdoor", sum := "e9f3ccb10a81e9fce01a2b7510ac20d0bb7c9470df5f925c64b23faa241080ed", func := "telpher/tellaw4.DnfBranches", spec := "dnfBranches", inPlace := ["slices.overlaps[int]"], unfollowed := true, recurses := true, named := ["telpher/telmake.leafNames", "telpher/typeterm.reserved", "internal/strconv.uint64pow10", "math/bits.deBruijn32tab", "math/bits.deBruijn64tab", "strconv.ErrSyntax", "strconv.ErrRange"], apart := false, laid := [("math/bits.deBruijn32tab", laid_math_bits_deBruijn32tab), ("math/bits.deBruijn64tab", laid_math_bits_deBruijn64tab), ("internal/strconv.uint64pow10", laid_internal_strconv_uint64pow10), ("strconv.ErrRange", laid_strconv_ErrRange), ("strconv.ErrSyntax", laid_strconv_ErrSyntax), ("telpher/typeterm.reserved", laid_telpher_typeterm_reserved), ("telpher/telmake.leafNames", laid_telpher_telmake_leafNames)], narrowed := true }
def DnfBranchesUptoSaid : Prop := dnfBranchesUptoRow.holds Tryz.pinned (OpenSpec.upto dnfBranchesSpec)

end Rows
end Go.Proofs.YtpgfpakdnijngaaGreatDoor
