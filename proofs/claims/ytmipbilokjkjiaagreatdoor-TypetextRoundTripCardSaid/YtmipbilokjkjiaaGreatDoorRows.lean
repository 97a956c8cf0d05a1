/-
  NARROWER THAN 'FOR EVERY INPUT', by the rows' own cells (each row's printed sentence says how): TypetextRoundTrip: laid · TypetextFormat: laid · TypetextNodes: laid · TypetextInjective: laid.
  DERIVED. THE GIVEN ROWS OF THIS SEAT. 4 by the template 'for every input the law returns true; each argument reads behind the call as it read before'; 0 by the template 'total and deterministic' (their statements: YtmipbilokjkjiaaGreatDoorTotals.lean).
  GIVEN WITH THE SEED: the statements are not yours to turn. If you find one false, say at which input.
  Laid BY PROGRAM, IN A SANDBOX (cutbox-rows.mjs): the forced cells as the released guide's own fill.sh prints them over the translation b1ea43a664700dd7… (all of the seat's roots in one cut). By AI agents, Wed Nov 11 2026. No macro, syntax, notation, axiom, sorry.
-/
import Derived.Test.YtmipbilokjkjiaaGreatDoorChecked
import GoSem.Claim
import GoSem.ClaimJoined
import GoSem.ClaimMapViews
import Derived.JoinedTies
import Derived.KernelRfl
namespace Go.Proofs.YtmipbilokjkjiaaGreatDoor
/- THE CELL 'sum', in the pinned program and in every row, IS THE sha256 OF THE DUMP (.gsa) THAT YtmipbilokjkjiaaGreatDoorProg.lean LOADS. Nothing in Lean hashes anything: it is a label: what it is worth is what the hold of that sum in a sandbox is worth. -/
noncomputable def Tryz.pinned : Pinned := { name := "ytmipbilokjkjiaagreatdoor", sum := "b1ea43a664700dd7dbe7be044d195653e2d2055ec4d4bad4d9784daff9dfc6a7", checked := Tryz.checked }
namespace Rows
def none {H : Type} : Left H := { results := [], args := [] }

/- WHAT THE LISTED PACKAGE-LEVEL VARIABLES READ AS WHEN THE CALL BEGINS. Each datum BY PROGRAM (the guide's laid-datum.mjs) off the statement by which the dump's own 'gosem.cut.vars' lays the variable. In a bare row this is a premise. The card (YtmipbilokjkjiaaGreatDoorCards.lean) ties it to the program's text. -/
def laid_math_bits_deBruijn32tab {H : Type} : DataW H := .agg [.lit (.int .u8 0), .lit (.int .u8 1), .lit (.int .u8 28), .lit (.int .u8 2), .lit (.int .u8 29), .lit (.int .u8 14), .lit (.int .u8 24), .lit (.int .u8 3), .lit (.int .u8 30), .lit (.int .u8 22), .lit (.int .u8 20), .lit (.int .u8 15), .lit (.int .u8 25), .lit (.int .u8 17), .lit (.int .u8 4), .lit (.int .u8 8), .lit (.int .u8 31), .lit (.int .u8 27), .lit (.int .u8 13), .lit (.int .u8 23), .lit (.int .u8 21), .lit (.int .u8 19), .lit (.int .u8 16), .lit (.int .u8 7), .lit (.int .u8 26), .lit (.int .u8 12), .lit (.int .u8 18), .lit (.int .u8 6), .lit (.int .u8 11), .lit (.int .u8 5), .lit (.int .u8 10), .lit (.int .u8 9)]
def laid_math_bits_deBruijn64tab {H : Type} : DataW H := .agg [.lit (.int .u8 0), .lit (.int .u8 1), .lit (.int .u8 56), .lit (.int .u8 2), .lit (.int .u8 57), .lit (.int .u8 49), .lit (.int .u8 28), .lit (.int .u8 3), .lit (.int .u8 61), .lit (.int .u8 58), .lit (.int .u8 42), .lit (.int .u8 50), .lit (.int .u8 38), .lit (.int .u8 29), .lit (.int .u8 17), .lit (.int .u8 4), .lit (.int .u8 62), .lit (.int .u8 47), .lit (.int .u8 59), .lit (.int .u8 36), .lit (.int .u8 45), .lit (.int .u8 43), .lit (.int .u8 51), .lit (.int .u8 22), .lit (.int .u8 53), .lit (.int .u8 39), .lit (.int .u8 33), .lit (.int .u8 30), .lit (.int .u8 24), .lit (.int .u8 18), .lit (.int .u8 12), .lit (.int .u8 5), .lit (.int .u8 63), .lit (.int .u8 55), .lit (.int .u8 48), .lit (.int .u8 27), .lit (.int .u8 60), .lit (.int .u8 41), .lit (.int .u8 37), .lit (.int .u8 16), .lit (.int .u8 46), .lit (.int .u8 35), .lit (.int .u8 44), .lit (.int .u8 21), .lit (.int .u8 52), .lit (.int .u8 32), .lit (.int .u8 23), .lit (.int .u8 11), .lit (.int .u8 54), .lit (.int .u8 26), .lit (.int .u8 40), .lit (.int .u8 15), .lit (.int .u8 34), .lit (.int .u8 20), .lit (.int .u8 31), .lit (.int .u8 10), .lit (.int .u8 25), .lit (.int .u8 14), .lit (.int .u8 19), .lit (.int .u8 9), .lit (.int .u8 13), .lit (.int .u8 8), .lit (.int .u8 7), .lit (.int .u8 6)]
def laid_internal_strconv_uint64pow10 {H : Type} : DataW H := .agg [.lit (.int .u64 1), .lit (.int .u64 10), .lit (.int .u64 100), .lit (.int .u64 1000), .lit (.int .u64 10000), .lit (.int .u64 100000), .lit (.int .u64 1000000), .lit (.int .u64 10000000), .lit (.int .u64 100000000), .lit (.int .u64 1000000000), .lit (.int .u64 10000000000), .lit (.int .u64 100000000000), .lit (.int .u64 1000000000000), .lit (.int .u64 10000000000000), .lit (.int .u64 100000000000000), .lit (.int .u64 1000000000000000), .lit (.int .u64 10000000000000000), .lit (.int .u64 100000000000000000), .lit (.int .u64 1000000000000000000), .lit (.int .u64 10000000000000000000)]
def laid_telpher_typeterm_reserved {H : Type} : DataW H := .slice [.lit (.string [65, 110, 121]), .lit (.string [78, 101, 118, 101, 114]), .lit (.string [116, 117, 112, 108, 101]), .lit (.string [117, 110, 105, 111, 110]), .lit (.string [101, 120, 105, 115, 116, 115])] []
def laid_telpher_telmake_extraNames {H : Type} : DataW H := .slice [.lit (.string [88, 97]), .lit (.string [88, 98]), .lit (.string [88, 99]), .lit (.string [88, 100])] []
def laid_telpher_telmake_leafNames {H : Type} : DataW H := .slice [.lit (.string [73, 110, 116]), .lit (.string [66, 111, 111, 108]), .lit (.string [83, 116, 114, 105, 110, 103]), .lit (.string [78, 105, 108])] []
def laid_telpher_typetext_reserved {H : Type} : DataW H := .slice [.lit (.string [65, 110, 121]), .lit (.string [78, 101, 118, 101, 114]), .lit (.string [116, 117, 112, 108, 101]), .lit (.string [117, 110, 105, 111, 110]), .lit (.string [101, 120, 105, 115, 116, 115])] []
def laid_telpher_telmake_anyNames {H : Type} : DataW H := .slice [.lit (.string [66, 111, 120]), .lit (.string [73, 110, 116]), .lit (.string [80, 97, 105, 114]), .lit (.string [65]), .lit (.string [120, 95, 49]), .lit (.string []), .lit (.string [116, 117, 112, 108, 101]), .lit (.string [65, 110, 121]), .lit (.string [49, 120]), .lit (.string [97, 45, 98]), .lit (.string [97, 98, 99, 100, 101, 102, 103, 104, 105, 106, 107, 108, 109, 110, 111, 112, 113, 114, 115, 116, 117, 118, 119, 120, 121])] []
def laid_telpher_telmake_words {H : Type} : DataW H := .slice [.lit (.string [97]), .lit (.string [120, 49]), .lit (.string [45, 55]), .lit (.string [48]), .lit (.string [66, 111, 120]), .lit (.string [97, 100, 100]), .lit (.string [108, 101, 116]), .lit (.string [116, 114, 117, 101]), .lit (.string [110, 105, 108]), .lit (.string [65]), .lit (.string [65, 110, 121]), .lit (.string [116, 117, 112, 108, 101]), .lit (.string [97, 45, 98]), .lit (.string [101, 120, 105, 115, 116, 115]), .lit (.string [116, 97, 115, 107]), .lit (.string [50, 49, 52, 55, 52, 56, 51, 54, 52, 56])] []
def laid_telpher_telmake_strings {H : Type} : DataW H := .slice [.lit (.string []), .lit (.string [97, 32, 98]), .lit (.string [113, 117, 111, 116, 101, 32, 34, 32, 97, 110, 100, 32, 92]), .lit (.string [126]), .lit (.string [40, 110, 111, 116, 32, 97, 32, 108, 105, 115, 116, 41]), .lit (.string [59, 32, 110, 111, 32, 99, 111, 109, 109, 101, 110, 116])] []
def laid_telpher_telmake_typeWords {H : Type} : DataW H := .slice [.lit (.string [73, 110, 116]), .lit (.string [66, 111, 111, 108]), .lit (.string [65]), .lit (.string [66]), .lit (.string [65, 110, 121]), .lit (.string [78, 101, 118, 101, 114]), .lit (.string [83, 104, 97, 112, 101]), .lit (.string [68, 105, 115, 107]), .lit (.string [77, 105, 115, 115, 105, 110, 103]), .lit (.string [116, 117, 112, 108, 101])] []

/-- 'tellaw11.TypetextRoundTrip': WHATEVER THE INPUT: true; the input reads as it did. -/
def typetextRoundTripSpec : ChangeSpec := { name := "typetextRoundTrip", fn := fun _ => fun
  | [d1, d2] => { results := [.lit (.bool true)], args := [d1, d2] }
  | _ => none }
def typetextRoundTripRow : OpenClaim := { program := "ytmipbilokjkjiaagreatdoor", sum := "b1ea43a664700dd7dbe7be044d195653e2d2055ec4d4bad4d9784daff9dfc6a7", func := "telpher/tellaw11.TypetextRoundTrip", spec := "typetextRoundTrip", inPlace := ["slices.overlaps[string]", "internal/abi.NoEscape", "internal/bytealg.IndexByteString"], unfollowed := true, recurses := true, named := ["telpher/telmake.extraNames", "telpher/telmake.leafNames", "telpher/typeterm.reserved", "internal/strconv.uint64pow10", "math/bits.deBruijn32tab", "math/bits.deBruijn64tab", "telpher/typetext.reserved"], apart := false, laid := [("math/bits.deBruijn32tab", laid_math_bits_deBruijn32tab), ("math/bits.deBruijn64tab", laid_math_bits_deBruijn64tab), ("internal/strconv.uint64pow10", laid_internal_strconv_uint64pow10), ("telpher/typeterm.reserved", laid_telpher_typeterm_reserved), ("telpher/telmake.extraNames", laid_telpher_telmake_extraNames), ("telpher/telmake.leafNames", laid_telpher_telmake_leafNames), ("telpher/typetext.reserved", laid_telpher_typetext_reserved)] }
def TypetextRoundTripSaid : Prop := typetextRoundTripRow.holds Tryz.pinned (OpenSpec.ofChange typetextRoundTripSpec)

/-- ITS FALSE NEIGHBOUR: 'it returns false'. Refute it at one input. -/
def typetextRoundTripWrong : ChangeSpec := { name := "typetextRoundTrip", fn := fun _ => fun
  | [d1, d2] => { results := [.lit (.bool false)], args := [d1, d2] }
  | _ => none }
def TypetextRoundTripWrongFalsely : Prop := typetextRoundTripRow.holds Tryz.pinned (OpenSpec.ofChange typetextRoundTripWrong)

/-- 'tellaw11.TypetextFormat': WHATEVER THE INPUT: true; the input reads as it did. -/
def typetextFormatSpec : ChangeSpec := { name := "typetextFormat", fn := fun _ => fun
  | [d1, d2] => { results := [.lit (.bool true)], args := [d1, d2] }
  | _ => none }
def typetextFormatRow : OpenClaim := { program := "ytmipbilokjkjiaagreatdoor", sum := "b1ea43a664700dd7dbe7be044d195653e2d2055ec4d4bad4d9784daff9dfc6a7", func := "telpher/tellaw11.TypetextFormat", spec := "typetextFormat", inPlace := ["internal/bytealg.IndexByteString", "slices.overlaps[string]", "internal/abi.NoEscape"], unfollowed := true, recurses := true, named := ["telpher/telmake.leafNames", "telpher/telmake.anyNames", "telpher/typetext.reserved", "telpher/typeterm.reserved", "internal/strconv.uint64pow10", "math/bits.deBruijn32tab", "math/bits.deBruijn64tab"], apart := false, laid := [("math/bits.deBruijn32tab", laid_math_bits_deBruijn32tab), ("math/bits.deBruijn64tab", laid_math_bits_deBruijn64tab), ("internal/strconv.uint64pow10", laid_internal_strconv_uint64pow10), ("telpher/typeterm.reserved", laid_telpher_typeterm_reserved), ("telpher/telmake.leafNames", laid_telpher_telmake_leafNames), ("telpher/telmake.anyNames", laid_telpher_telmake_anyNames), ("telpher/typetext.reserved", laid_telpher_typetext_reserved)] }
def TypetextFormatSaid : Prop := typetextFormatRow.holds Tryz.pinned (OpenSpec.ofChange typetextFormatSpec)

/-- ITS FALSE NEIGHBOUR: 'it returns false'. Refute it at one input. -/
def typetextFormatWrong : ChangeSpec := { name := "typetextFormat", fn := fun _ => fun
  | [d1, d2] => { results := [.lit (.bool false)], args := [d1, d2] }
  | _ => none }
def TypetextFormatWrongFalsely : Prop := typetextFormatRow.holds Tryz.pinned (OpenSpec.ofChange typetextFormatWrong)

/-- 'tellaw11.TypetextNodes': WHATEVER THE INPUT: true; the input reads as it did. -/
def typetextNodesSpec : ChangeSpec := { name := "typetextNodes", fn := fun _ => fun
  | [d1, d2] => { results := [.lit (.bool true)], args := [d1, d2] }
  | _ => none }
def typetextNodesRow : OpenClaim := { program := "ytmipbilokjkjiaagreatdoor", sum := "b1ea43a664700dd7dbe7be044d195653e2d2055ec4d4bad4d9784daff9dfc6a7", func := "telpher/tellaw11.TypetextNodes", spec := "typetextNodes", inPlace := ["internal/bytealg.IndexByteString", "slices.overlaps[string]", "internal/abi.NoEscape"], unfollowed := true, recurses := true, named := ["telpher/telmake.strings", "telpher/telmake.words", "telpher/telmake.typeWords", "telpher/typetext.reserved", "telpher/typeterm.reserved", "internal/strconv.uint64pow10", "math/bits.deBruijn32tab", "math/bits.deBruijn64tab"], apart := false, laid := [("math/bits.deBruijn32tab", laid_math_bits_deBruijn32tab), ("math/bits.deBruijn64tab", laid_math_bits_deBruijn64tab), ("internal/strconv.uint64pow10", laid_internal_strconv_uint64pow10), ("telpher/typeterm.reserved", laid_telpher_typeterm_reserved), ("telpher/telmake.words", laid_telpher_telmake_words), ("telpher/telmake.strings", laid_telpher_telmake_strings), ("telpher/telmake.typeWords", laid_telpher_telmake_typeWords), ("telpher/typetext.reserved", laid_telpher_typetext_reserved)] }
def TypetextNodesSaid : Prop := typetextNodesRow.holds Tryz.pinned (OpenSpec.ofChange typetextNodesSpec)

/-- ITS FALSE NEIGHBOUR: 'it returns false'. Refute it at one input. -/
def typetextNodesWrong : ChangeSpec := { name := "typetextNodes", fn := fun _ => fun
  | [d1, d2] => { results := [.lit (.bool false)], args := [d1, d2] }
  | _ => none }
def TypetextNodesWrongFalsely : Prop := typetextNodesRow.holds Tryz.pinned (OpenSpec.ofChange typetextNodesWrong)

/-- 'tellaw11.TypetextInjective': WHATEVER THE INPUT: true; the input reads as it did. -/
def typetextInjectiveSpec : ChangeSpec := { name := "typetextInjective", fn := fun _ => fun
  | [d1, d2, d3] => { results := [.lit (.bool true)], args := [d1, d2, d3] }
  | _ => none }
def typetextInjectiveRow : OpenClaim := { program := "ytmipbilokjkjiaagreatdoor", sum := "b1ea43a664700dd7dbe7be044d195653e2d2055ec4d4bad4d9784daff9dfc6a7", func := "telpher/tellaw11.TypetextInjective", spec := "typetextInjective", inPlace := ["internal/bytealg.IndexByteString", "slices.overlaps[string]", "internal/abi.NoEscape"], unfollowed := true, recurses := true, named := ["telpher/telmake.leafNames", "telpher/typetext.reserved", "telpher/typeterm.reserved", "internal/strconv.uint64pow10", "math/bits.deBruijn32tab", "math/bits.deBruijn64tab"], apart := false, laid := [("math/bits.deBruijn32tab", laid_math_bits_deBruijn32tab), ("math/bits.deBruijn64tab", laid_math_bits_deBruijn64tab), ("internal/strconv.uint64pow10", laid_internal_strconv_uint64pow10), ("telpher/typeterm.reserved", laid_telpher_typeterm_reserved), ("telpher/telmake.leafNames", laid_telpher_telmake_leafNames), ("telpher/typetext.reserved", laid_telpher_typetext_reserved)] }
def TypetextInjectiveSaid : Prop := typetextInjectiveRow.holds Tryz.pinned (OpenSpec.ofChange typetextInjectiveSpec)

/-- ITS FALSE NEIGHBOUR: 'it returns false'. Refute it at one input. -/
def typetextInjectiveWrong : ChangeSpec := { name := "typetextInjective", fn := fun _ => fun
  | [d1, d2, d3] => { results := [.lit (.bool false)], args := [d1, d2, d3] }
  | _ => none }
def TypetextInjectiveWrongFalsely : Prop := typetextInjectiveRow.holds Tryz.pinned (OpenSpec.ofChange typetextInjectiveWrong)

/- THE SECOND FORM. 'bulk': how many values and letters a reading holds, each counted each time it is reached (what is shared counts as often as it is met; a slice's spare places count too). A statement '..UptoSaid' is the law's where the arguments, and the package variables that the reading takes, are together of bulk at most 1048576: NARROWER than '..Said'. Prove '..Said' where nothing that the law and all that it calls make is longer than what came in: it says more and counts as full. Else prove '..UptoSaid'. A law counts once. -/
mutual
def uptoBulk {H : Type} : DataW H → Nat
  | .lit (.string bytes) => bytes.length + 1
  | .lit _ => 1
  | .nil => 1
  | .ptr d => uptoBulk d + 1
  | .slice elems spare => uptoBulkAll elems + uptoBulkAll spare + 1
  | .agg parts => uptoBulkAll parts + 1
  | .iface _ d => uptoBulk d + 1
  | .map entries => uptoBulkEntries entries + 1
  | .held _ => 1
def uptoBulkAll {H : Type} : List (DataW H) → Nat
  | [] => 0
  | d :: r => uptoBulk d + uptoBulkAll r
def uptoBulkEntries {H : Type} : List (Lit × DataW H) → Nat
  | [] => 0
  | x :: r => uptoBulkEntry x + uptoBulkEntries r
def uptoBulkEntry {H : Type} : Lit × DataW H → Nat
  | (.string bytes, d) => bytes.length + uptoBulk d + 1
  | (_, d) => uptoBulk d + 1
 end
def uptoSmall : (H : Type) → List (DataW H) → Bool := fun _ ds => decide (uptoBulkAll ds ≤ 1048576)
def OpenSpec.upto (s : _root_.Go.ChangeSpec) : _root_.Go.OpenSpec := { _root_.Go.OpenSpec.ofChange s with cond := some uptoSmall }

/-- 'tellaw11.TypetextRoundTrip', WHERE WHAT IT READS IS OF BULK AT MOST 1048576: true; the input reads as it did. -/
def typetextRoundTripUptoRow : OpenClaim := { program := "ytmipbilokjkjiaagreatdoor", sum := "b1ea43a664700dd7dbe7be044d195653e2d2055ec4d4bad4d9784daff9dfc6a7", func := "telpher/tellaw11.TypetextRoundTrip", spec := "typetextRoundTrip", inPlace := ["slices.overlaps[string]", "internal/abi.NoEscape", "internal/bytealg.IndexByteString"], unfollowed := true, recurses := true, named := ["telpher/telmake.extraNames", "telpher/telmake.leafNames", "telpher/typeterm.reserved", "internal/strconv.uint64pow10", "math/bits.deBruijn32tab", "math/bits.deBruijn64tab", "telpher/typetext.reserved"], apart := false, laid := [("math/bits.deBruijn32tab", laid_math_bits_deBruijn32tab), ("math/bits.deBruijn64tab", laid_math_bits_deBruijn64tab), ("internal/strconv.uint64pow10", laid_internal_strconv_uint64pow10), ("telpher/typeterm.reserved", laid_telpher_typeterm_reserved), ("telpher/telmake.extraNames", laid_telpher_telmake_extraNames), ("telpher/telmake.leafNames", laid_telpher_telmake_leafNames), ("telpher/typetext.reserved", laid_telpher_typetext_reserved)], narrowed := true }
def TypetextRoundTripUptoSaid : Prop := typetextRoundTripUptoRow.holds Tryz.pinned (OpenSpec.upto typetextRoundTripSpec)

/-- 'tellaw11.TypetextFormat', WHERE WHAT IT READS IS OF BULK AT MOST 1048576: true; the input reads as it did. -/
def typetextFormatUptoRow : OpenClaim := { program := "ytmipbilokjkjiaagreatdoor", sum := "b1ea43a664700dd7dbe7be044d195653e2d2055ec4d4bad4d9784daff9dfc6a7", func := "telpher/tellaw11.TypetextFormat", spec := "typetextFormat", inPlace := ["internal/bytealg.IndexByteString", "slices.overlaps[string]", "internal/abi.NoEscape"], unfollowed := true, recurses := true, named := ["telpher/telmake.leafNames", "telpher/telmake.anyNames", "telpher/typetext.reserved", "telpher/typeterm.reserved", "internal/strconv.uint64pow10", "math/bits.deBruijn32tab", "math/bits.deBruijn64tab"], apart := false, laid := [("math/bits.deBruijn32tab", laid_math_bits_deBruijn32tab), ("math/bits.deBruijn64tab", laid_math_bits_deBruijn64tab), ("internal/strconv.uint64pow10", laid_internal_strconv_uint64pow10), ("telpher/typeterm.reserved", laid_telpher_typeterm_reserved), ("telpher/telmake.leafNames", laid_telpher_telmake_leafNames), ("telpher/telmake.anyNames", laid_telpher_telmake_anyNames), ("telpher/typetext.reserved", laid_telpher_typetext_reserved)], narrowed := true }
def TypetextFormatUptoSaid : Prop := typetextFormatUptoRow.holds Tryz.pinned (OpenSpec.upto typetextFormatSpec)

/-- 'tellaw11.TypetextNodes', WHERE WHAT IT READS IS OF BULK AT MOST 1048576: true; the input reads as it did. -/
def typetextNodesUptoRow : OpenClaim := { program := "ytmipbilokjkjiaagreatdoor", sum := "b1ea43a664700dd7dbe7be044d195653e2d2055ec4d4bad4d9784daff9dfc6a7", func := "telpher/tellaw11.TypetextNodes", spec := "typetextNodes", inPlace := ["internal/bytealg.IndexByteString", "slices.overlaps[string]", "internal/abi.NoEscape"], unfollowed := true, recurses := true, named := ["telpher/telmake.strings", "telpher/telmake.words", "telpher/telmake.typeWords", "telpher/typetext.reserved", "telpher/typeterm.reserved", "internal/strconv.uint64pow10", "math/bits.deBruijn32tab", "math/bits.deBruijn64tab"], apart := false, laid := [("math/bits.deBruijn32tab", laid_math_bits_deBruijn32tab), ("math/bits.deBruijn64tab", laid_math_bits_deBruijn64tab), ("internal/strconv.uint64pow10", laid_internal_strconv_uint64pow10), ("telpher/typeterm.reserved", laid_telpher_typeterm_reserved), ("telpher/telmake.words", laid_telpher_telmake_words), ("telpher/telmake.strings", laid_telpher_telmake_strings), ("telpher/telmake.typeWords", laid_telpher_telmake_typeWords), ("telpher/typetext.reserved", laid_telpher_typetext_reserved)], narrowed := true }
def TypetextNodesUptoSaid : Prop := typetextNodesUptoRow.holds Tryz.pinned (OpenSpec.upto typetextNodesSpec)

/-- 'tellaw11.TypetextInjective', WHERE WHAT IT READS IS OF BULK AT MOST 1048576: true; the input reads as it did. -/
def typetextInjectiveUptoRow : OpenClaim := { program := "ytmipbilokjkjiaagreatdoor", sum := "b1ea43a664700dd7dbe7be044d195653e2d2055ec4d4bad4d9784daff9dfc6a7", func := "telpher/tellaw11.TypetextInjective", spec := "typetextInjective", inPlace := ["internal/bytealg.IndexByteString", "slices.overlaps[string]", "internal/abi.NoEscape"], unfollowed := true, recurses := true, named := ["telpher/telmake.leafNames", "telpher/typetext.reserved", "telpher/typeterm.reserved", "internal/strconv.uint64pow10", "math/bits.deBruijn32tab", "math/bits.deBruijn64tab"], apart := false, laid := [("math/bits.deBruijn32tab", laid_math_bits_deBruijn32tab), ("math/bits.deBruijn64tab", laid_math_bits_deBruijn64tab), ("internal/strconv.uint64pow10", laid_internal_strconv_uint64pow10), ("telpher/typeterm.reserved", laid_telpher_typeterm_reserved), ("telpher/telmake.leafNames", laid_telpher_telmake_leafNames), ("telpher/typetext.reserved", laid_telpher_typetext_reserved)], narrowed := true }
def TypetextInjectiveUptoSaid : Prop := typetextInjectiveUptoRow.holds Tryz.pinned (OpenSpec.upto typetextInjectiveSpec)

end Rows
end Go.Proofs.YtmipbilokjkjiaaGreatDoor
