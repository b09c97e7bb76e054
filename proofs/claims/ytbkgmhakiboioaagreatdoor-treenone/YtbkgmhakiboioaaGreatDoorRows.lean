/-
  NARROWER THAN 'FOR EVERY INPUT', by the rows' own cells (each row's printed sentence says how): TreeWalks: laid · TreeAgrees: laid · TreePlays: laid · TreeNone: laid · TreeBuilds: laid · TreeReaps: laid · ModelRuns: laid · ModelCopies: laid.
  DERIVED. THE GIVEN ROWS OF THIS SEAT. 8 by the template 'for every input the law returns true; each argument reads behind the call as it read before'; 0 by the template 'total and deterministic' (their statements: YtbkgmhakiboioaaGreatDoorTotals.lean).
  GIVEN WITH THE SEED: the statements are not yours to turn. If you find one false, say at which input.
  Laid BY PROGRAM, IN A SANDBOX (cutbox-rows.mjs): the forced cells as the released guide's own fill.sh prints them over the translation 307357c4609fd116… (all of the seat's roots in one cut). By AI agents, Wed Nov 11 2026. No macro, syntax, notation, axiom, sorry.
-/
import Derived.Test.YtbkgmhakiboioaaGreatDoorChecked
import GoSem.PinnedTables
import GoSem.Claim
import GoSem.ClaimJoined
import GoSem.ClaimMapViews
import Derived.JoinedTies
import Derived.KernelRfl
namespace Go.Proofs.YtbkgmhakiboioaaGreatDoor
/- THE CELL 'sum', in the pinned program and in every row, IS THE sha256 OF THE DUMP (.gsa) THAT YtbkgmhakiboioaaGreatDoorProg.lean LOADS. Nothing in Lean hashes anything: it is a label: what it is worth is what the hold of that sum in a sandbox is worth. -/
noncomputable def Tryz.pinned : Pinned := { name := "ytbkgmhakiboioaagreatdoor", sum := "307357c4609fd11677af36649cf827f8f00bdb2a29547c55639357f1a7ad90c5", checked := Tryz.checked }
namespace Rows
def none {H : Type} : Left H := { results := [], args := [] }

/- WHAT THE LISTED PACKAGE-LEVEL VARIABLES READ AS WHEN THE CALL BEGINS. Each datum BY PROGRAM (the guide's laid-datum.mjs) off the statement by which the dump's own 'gosem.cut.vars' lays the variable. In a bare row this is a premise. The card (YtbkgmhakiboioaaGreatDoorCards.lean) ties it to the program's text. -/
def laid_unicode_utf8_acceptRanges {H : Type} : DataW H := .agg [.agg [.lit (.int .u8 128), .lit (.int .u8 191)], .agg [.lit (.int .u8 160), .lit (.int .u8 191)], .agg [.lit (.int .u8 128), .lit (.int .u8 159)], .agg [.lit (.int .u8 144), .lit (.int .u8 191)], .agg [.lit (.int .u8 128), .lit (.int .u8 143)], .agg [.lit (.int .u8 0), .lit (.int .u8 0)], .agg [.lit (.int .u8 0), .lit (.int .u8 0)], .agg [.lit (.int .u8 0), .lit (.int .u8 0)], .agg [.lit (.int .u8 0), .lit (.int .u8 0)], .agg [.lit (.int .u8 0), .lit (.int .u8 0)], .agg [.lit (.int .u8 0), .lit (.int .u8 0)], .agg [.lit (.int .u8 0), .lit (.int .u8 0)], .agg [.lit (.int .u8 0), .lit (.int .u8 0)], .agg [.lit (.int .u8 0), .lit (.int .u8 0)], .agg [.lit (.int .u8 0), .lit (.int .u8 0)], .agg [.lit (.int .u8 0), .lit (.int .u8 0)]]
/-- One of Go's own tables, pinned by name: the form's constant. -/
def laid_unicode_utf8_first : DataW Unit := Go.Pinned.utf8First
def laid_math_bits_deBruijn32tab {H : Type} : DataW H := .agg [.lit (.int .u8 0), .lit (.int .u8 1), .lit (.int .u8 28), .lit (.int .u8 2), .lit (.int .u8 29), .lit (.int .u8 14), .lit (.int .u8 24), .lit (.int .u8 3), .lit (.int .u8 30), .lit (.int .u8 22), .lit (.int .u8 20), .lit (.int .u8 15), .lit (.int .u8 25), .lit (.int .u8 17), .lit (.int .u8 4), .lit (.int .u8 8), .lit (.int .u8 31), .lit (.int .u8 27), .lit (.int .u8 13), .lit (.int .u8 23), .lit (.int .u8 21), .lit (.int .u8 19), .lit (.int .u8 16), .lit (.int .u8 7), .lit (.int .u8 26), .lit (.int .u8 12), .lit (.int .u8 18), .lit (.int .u8 6), .lit (.int .u8 11), .lit (.int .u8 5), .lit (.int .u8 10), .lit (.int .u8 9)]
def laid_math_bits_deBruijn64tab {H : Type} : DataW H := .agg [.lit (.int .u8 0), .lit (.int .u8 1), .lit (.int .u8 56), .lit (.int .u8 2), .lit (.int .u8 57), .lit (.int .u8 49), .lit (.int .u8 28), .lit (.int .u8 3), .lit (.int .u8 61), .lit (.int .u8 58), .lit (.int .u8 42), .lit (.int .u8 50), .lit (.int .u8 38), .lit (.int .u8 29), .lit (.int .u8 17), .lit (.int .u8 4), .lit (.int .u8 62), .lit (.int .u8 47), .lit (.int .u8 59), .lit (.int .u8 36), .lit (.int .u8 45), .lit (.int .u8 43), .lit (.int .u8 51), .lit (.int .u8 22), .lit (.int .u8 53), .lit (.int .u8 39), .lit (.int .u8 33), .lit (.int .u8 30), .lit (.int .u8 24), .lit (.int .u8 18), .lit (.int .u8 12), .lit (.int .u8 5), .lit (.int .u8 63), .lit (.int .u8 55), .lit (.int .u8 48), .lit (.int .u8 27), .lit (.int .u8 60), .lit (.int .u8 41), .lit (.int .u8 37), .lit (.int .u8 16), .lit (.int .u8 46), .lit (.int .u8 35), .lit (.int .u8 44), .lit (.int .u8 21), .lit (.int .u8 52), .lit (.int .u8 32), .lit (.int .u8 23), .lit (.int .u8 11), .lit (.int .u8 54), .lit (.int .u8 26), .lit (.int .u8 40), .lit (.int .u8 15), .lit (.int .u8 34), .lit (.int .u8 20), .lit (.int .u8 31), .lit (.int .u8 10), .lit (.int .u8 25), .lit (.int .u8 14), .lit (.int .u8 19), .lit (.int .u8 9), .lit (.int .u8 13), .lit (.int .u8 8), .lit (.int .u8 7), .lit (.int .u8 6)]
def laid_internal_strconv_uint64pow10 {H : Type} : DataW H := .agg [.lit (.int .u64 1), .lit (.int .u64 10), .lit (.int .u64 100), .lit (.int .u64 1000), .lit (.int .u64 10000), .lit (.int .u64 100000), .lit (.int .u64 1000000), .lit (.int .u64 10000000), .lit (.int .u64 100000000), .lit (.int .u64 1000000000), .lit (.int .u64 10000000000), .lit (.int .u64 100000000000), .lit (.int .u64 1000000000000), .lit (.int .u64 10000000000000), .lit (.int .u64 100000000000000), .lit (.int .u64 1000000000000000), .lit (.int .u64 10000000000000000), .lit (.int .u64 100000000000000000), .lit (.int .u64 1000000000000000000), .lit (.int .u64 10000000000000000000)]

/-- 'gabionlaw19.TreeWalks': WHATEVER THE INPUT: true; the input reads as it did. -/
def treeWalksSpec : ChangeSpec := { name := "treeWalks", fn := fun _ => fun
  | [d1, d2, d3] => { results := [.lit (.bool true)], args := [d1, d2, d3] }
  | _ => none }
def treeWalksRow : OpenClaim := { program := "ytbkgmhakiboioaagreatdoor", sum := "307357c4609fd11677af36649cf827f8f00bdb2a29547c55639357f1a7ad90c5", func := "gabion/gabionlaw19.TreeWalks", spec := "treeWalks", inPlace := ["internal/bytealg.IndexByteString", "internal/bytealg.IndexString"], unfollowed := true, recurses := true, named := ["internal/bytealg.MaxLen", "unicode/utf8.first", "unicode/utf8.acceptRanges"], plainKeys := false, apart := false, laid := [("unicode/utf8.acceptRanges", laid_unicode_utf8_acceptRanges), ("unicode/utf8.first", laid_unicode_utf8_first)] }
def TreeWalksSaid : Prop := treeWalksRow.holds Tryz.pinned (OpenSpec.ofChange treeWalksSpec)

/-- ITS FALSE NEIGHBOUR: 'it returns false'. Refute it at one input. -/
def treeWalksWrong : ChangeSpec := { name := "treeWalks", fn := fun _ => fun
  | [d1, d2, d3] => { results := [.lit (.bool false)], args := [d1, d2, d3] }
  | _ => none }
def TreeWalksWrongFalsely : Prop := treeWalksRow.holds Tryz.pinned (OpenSpec.ofChange treeWalksWrong)

/-- 'gabionlaw19.TreeAgrees': WHATEVER THE INPUT: true; the input reads as it did. -/
def treeAgreesSpec : ChangeSpec := { name := "treeAgrees", fn := fun _ => fun
  | [d] => { results := [.lit (.bool true)], args := [d] }
  | _ => none }
def treeAgreesRow : OpenClaim := { program := "ytbkgmhakiboioaagreatdoor", sum := "307357c4609fd11677af36649cf827f8f00bdb2a29547c55639357f1a7ad90c5", func := "gabion/gabionlaw19.TreeAgrees", spec := "treeAgrees", inPlace := ["internal/bytealg.IndexByteString", "internal/bytealg.IndexString"], unfollowed := true, recurses := true, named := ["internal/bytealg.MaxLen", "unicode/utf8.first", "unicode/utf8.acceptRanges"], plainKeys := false, apart := false, laid := [("unicode/utf8.acceptRanges", laid_unicode_utf8_acceptRanges), ("unicode/utf8.first", laid_unicode_utf8_first)] }
def TreeAgreesSaid : Prop := treeAgreesRow.holds Tryz.pinned (OpenSpec.ofChange treeAgreesSpec)

/-- ITS FALSE NEIGHBOUR: 'it returns false'. Refute it at one input. -/
def treeAgreesWrong : ChangeSpec := { name := "treeAgrees", fn := fun _ => fun
  | [d] => { results := [.lit (.bool false)], args := [d] }
  | _ => none }
def TreeAgreesWrongFalsely : Prop := treeAgreesRow.holds Tryz.pinned (OpenSpec.ofChange treeAgreesWrong)

/-- 'gabionlaw19.TreePlays': WHATEVER THE INPUT: true; the input reads as it did. -/
def treePlaysSpec : ChangeSpec := { name := "treePlays", fn := fun _ => fun
  | [d] => { results := [.lit (.bool true)], args := [d] }
  | _ => none }
def treePlaysRow : OpenClaim := { program := "ytbkgmhakiboioaagreatdoor", sum := "307357c4609fd11677af36649cf827f8f00bdb2a29547c55639357f1a7ad90c5", func := "gabion/gabionlaw19.TreePlays", spec := "treePlays", inPlace := ["internal/bytealg.IndexByteString", "internal/bytealg.IndexString", "maps.clone"], unfollowed := true, recurses := true, named := ["internal/bytealg.MaxLen", "unicode/utf8.first", "unicode/utf8.acceptRanges"], plainKeys := false, apart := false, laid := [("unicode/utf8.acceptRanges", laid_unicode_utf8_acceptRanges), ("unicode/utf8.first", laid_unicode_utf8_first)] }
def TreePlaysSaid : Prop := treePlaysRow.holds Tryz.pinned (OpenSpec.ofChange treePlaysSpec)

/-- ITS FALSE NEIGHBOUR: 'it returns false'. Refute it at one input. -/
def treePlaysWrong : ChangeSpec := { name := "treePlays", fn := fun _ => fun
  | [d] => { results := [.lit (.bool false)], args := [d] }
  | _ => none }
def TreePlaysWrongFalsely : Prop := treePlaysRow.holds Tryz.pinned (OpenSpec.ofChange treePlaysWrong)

/-- 'gabionlaw19.TreeNone': WHATEVER THE INPUT: true; the input reads as it did. -/
def treeNoneSpec : ChangeSpec := { name := "treeNone", fn := fun _ => fun
  | [d1, d2] => { results := [.lit (.bool true)], args := [d1, d2] }
  | _ => none }
def treeNoneRow : OpenClaim := { program := "ytbkgmhakiboioaagreatdoor", sum := "307357c4609fd11677af36649cf827f8f00bdb2a29547c55639357f1a7ad90c5", func := "gabion/gabionlaw19.TreeNone", spec := "treeNone", inPlace := ["internal/bytealg.IndexByteString", "internal/bytealg.IndexString", "maps.clone"], unfollowed := true, recurses := true, named := ["unicode/utf8.first", "unicode/utf8.acceptRanges", "internal/bytealg.MaxLen"], plainKeys := false, apart := false, laid := [("unicode/utf8.acceptRanges", laid_unicode_utf8_acceptRanges), ("unicode/utf8.first", laid_unicode_utf8_first)] }
def TreeNoneSaid : Prop := treeNoneRow.holds Tryz.pinned (OpenSpec.ofChange treeNoneSpec)

/-- ITS FALSE NEIGHBOUR: 'it returns false'. Refute it at one input. -/
def treeNoneWrong : ChangeSpec := { name := "treeNone", fn := fun _ => fun
  | [d1, d2] => { results := [.lit (.bool false)], args := [d1, d2] }
  | _ => none }
def TreeNoneWrongFalsely : Prop := treeNoneRow.holds Tryz.pinned (OpenSpec.ofChange treeNoneWrong)

/-- 'gabionlaw19.TreeBuilds': WHATEVER THE INPUT: true; the input reads as it did. -/
def treeBuildsSpec : ChangeSpec := { name := "treeBuilds", fn := fun _ => fun
  | [d1, d2, d3] => { results := [.lit (.bool true)], args := [d1, d2, d3] }
  | _ => none }
def treeBuildsRow : OpenClaim := { program := "ytbkgmhakiboioaagreatdoor", sum := "307357c4609fd11677af36649cf827f8f00bdb2a29547c55639357f1a7ad90c5", func := "gabion/gabionlaw19.TreeBuilds", spec := "treeBuilds", inPlace := ["internal/bytealg.IndexByteString", "internal/bytealg.IndexString"], unfollowed := true, recurses := true, named := ["internal/bytealg.MaxLen", "unicode/utf8.first", "unicode/utf8.acceptRanges"], plainKeys := false, apart := false, laid := [("unicode/utf8.acceptRanges", laid_unicode_utf8_acceptRanges), ("unicode/utf8.first", laid_unicode_utf8_first)] }
def TreeBuildsSaid : Prop := treeBuildsRow.holds Tryz.pinned (OpenSpec.ofChange treeBuildsSpec)

/-- ITS FALSE NEIGHBOUR: 'it returns false'. Refute it at one input. -/
def treeBuildsWrong : ChangeSpec := { name := "treeBuilds", fn := fun _ => fun
  | [d1, d2, d3] => { results := [.lit (.bool false)], args := [d1, d2, d3] }
  | _ => none }
def TreeBuildsWrongFalsely : Prop := treeBuildsRow.holds Tryz.pinned (OpenSpec.ofChange treeBuildsWrong)

/-- 'gabionlaw19.TreeReaps': WHATEVER THE INPUT: true; the input reads as it did. -/
def treeReapsSpec : ChangeSpec := { name := "treeReaps", fn := fun _ => fun
  | [d] => { results := [.lit (.bool true)], args := [d] }
  | _ => none }
def treeReapsRow : OpenClaim := { program := "ytbkgmhakiboioaagreatdoor", sum := "307357c4609fd11677af36649cf827f8f00bdb2a29547c55639357f1a7ad90c5", func := "gabion/gabionlaw19.TreeReaps", spec := "treeReaps", inPlace := ["internal/bytealg.IndexByteString", "internal/bytealg.IndexString", "maps.clone"], unfollowed := true, recurses := true, named := ["internal/bytealg.MaxLen", "unicode/utf8.first", "unicode/utf8.acceptRanges"], plainKeys := false, apart := false, laid := [("unicode/utf8.acceptRanges", laid_unicode_utf8_acceptRanges), ("unicode/utf8.first", laid_unicode_utf8_first)] }
def TreeReapsSaid : Prop := treeReapsRow.holds Tryz.pinned (OpenSpec.ofChange treeReapsSpec)

/-- ITS FALSE NEIGHBOUR: 'it returns false'. Refute it at one input. -/
def treeReapsWrong : ChangeSpec := { name := "treeReaps", fn := fun _ => fun
  | [d] => { results := [.lit (.bool false)], args := [d] }
  | _ => none }
def TreeReapsWrongFalsely : Prop := treeReapsRow.holds Tryz.pinned (OpenSpec.ofChange treeReapsWrong)

/-- 'gabionlaw29.ModelRuns': WHATEVER THE INPUT: true; the input reads as it did. -/
def modelRunsSpec : ChangeSpec := { name := "modelRuns", fn := fun _ => fun
  | [d] => { results := [.lit (.bool true)], args := [d] }
  | _ => none }
def modelRunsRow : OpenClaim := { program := "ytbkgmhakiboioaagreatdoor", sum := "307357c4609fd11677af36649cf827f8f00bdb2a29547c55639357f1a7ad90c5", func := "gabion/gabionlaw29.ModelRuns", spec := "modelRuns", inPlace := ["internal/abi.NoEscape", "internal/bytealg.MakeNoZero", "internal/bytealg.IndexByteString", "internal/bytealg.IndexString"], unfollowed := true, recurses := true, named := ["internal/bytealg.MaxLen", "unicode/utf8.first", "unicode/utf8.acceptRanges", "internal/strconv.uint64pow10", "math/bits.deBruijn32tab", "math/bits.deBruijn64tab"], plainKeys := false, apart := false, laid := [("math/bits.deBruijn32tab", laid_math_bits_deBruijn32tab), ("math/bits.deBruijn64tab", laid_math_bits_deBruijn64tab), ("internal/strconv.uint64pow10", laid_internal_strconv_uint64pow10), ("unicode/utf8.acceptRanges", laid_unicode_utf8_acceptRanges), ("unicode/utf8.first", laid_unicode_utf8_first)] }
def ModelRunsSaid : Prop := modelRunsRow.holds Tryz.pinned (OpenSpec.ofChange modelRunsSpec)

/-- ITS FALSE NEIGHBOUR: 'it returns false'. Refute it at one input. -/
def modelRunsWrong : ChangeSpec := { name := "modelRuns", fn := fun _ => fun
  | [d] => { results := [.lit (.bool false)], args := [d] }
  | _ => none }
def ModelRunsWrongFalsely : Prop := modelRunsRow.holds Tryz.pinned (OpenSpec.ofChange modelRunsWrong)

/-- 'gabionlaw29.ModelCopies': WHATEVER THE INPUT: true; the input reads as it did. -/
def modelCopiesSpec : ChangeSpec := { name := "modelCopies", fn := fun _ => fun
  | [d1, d2] => { results := [.lit (.bool true)], args := [d1, d2] }
  | _ => none }
def modelCopiesRow : OpenClaim := { program := "ytbkgmhakiboioaagreatdoor", sum := "307357c4609fd11677af36649cf827f8f00bdb2a29547c55639357f1a7ad90c5", func := "gabion/gabionlaw29.ModelCopies", spec := "modelCopies", inPlace := ["internal/abi.NoEscape", "internal/bytealg.MakeNoZero", "internal/bytealg.IndexByteString", "internal/bytealg.IndexString", "maps.clone"], unfollowed := true, recurses := true, named := ["internal/bytealg.MaxLen", "unicode/utf8.first", "unicode/utf8.acceptRanges", "internal/strconv.uint64pow10", "math/bits.deBruijn32tab", "math/bits.deBruijn64tab"], plainKeys := false, apart := false, laid := [("math/bits.deBruijn32tab", laid_math_bits_deBruijn32tab), ("math/bits.deBruijn64tab", laid_math_bits_deBruijn64tab), ("internal/strconv.uint64pow10", laid_internal_strconv_uint64pow10), ("unicode/utf8.acceptRanges", laid_unicode_utf8_acceptRanges), ("unicode/utf8.first", laid_unicode_utf8_first)] }
def ModelCopiesSaid : Prop := modelCopiesRow.holds Tryz.pinned (OpenSpec.ofChange modelCopiesSpec)

/-- ITS FALSE NEIGHBOUR: 'it returns false'. Refute it at one input. -/
def modelCopiesWrong : ChangeSpec := { name := "modelCopies", fn := fun _ => fun
  | [d1, d2] => { results := [.lit (.bool false)], args := [d1, d2] }
  | _ => none }
def ModelCopiesWrongFalsely : Prop := modelCopiesRow.holds Tryz.pinned (OpenSpec.ofChange modelCopiesWrong)

/- THE SECOND FORM. 'bulk': how many values and letters a reading holds, each counted each time it is reached (what is shared counts as often as it is met; a slice's spare places count too). A statement '..UptoSaid' is the law's where the arguments, and the package variables that the reading takes, are together of bulk at most 1048576: NARROWER than '..Said'. Prove '..Said' where nothing that the law and all that it calls make is longer than what came in: it says more and counts as full. Else prove '..UptoSaid'. A law counts once. -/
mutual
def uptoBulk {H : Type} : DataW H → Nat
  | .lit (.string bytes) => bytes.length + 1
  | .lit _ => 1
  | .nil => 1
  | .ptr d => uptoBulk d + 1
  | .slice elems spare => uptoBulkAll elems + uptoBulkAll spare + 1
  | .agg parts => uptoBulkAll parts + 1
  | .iface _ d => uptoBulk d + 1
  | .map entries => uptoBulkEntries entries + 1
  | .held _ => 1
def uptoBulkAll {H : Type} : List (DataW H) → Nat
  | [] => 0
  | d :: r => uptoBulk d + uptoBulkAll r
def uptoBulkEntries {H : Type} : List (Lit × DataW H) → Nat
  | [] => 0
  | x :: r => uptoBulkEntry x + uptoBulkEntries r
def uptoBulkEntry {H : Type} : Lit × DataW H → Nat
  | (.string bytes, d) => bytes.length + uptoBulk d + 1
  | (_, d) => uptoBulk d + 1
 end
def uptoSmall : (H : Type) → List (DataW H) → Bool := fun _ ds => decide (uptoBulkAll ds ≤ 1048576)
def OpenSpec.upto (s : _root_.Go.ChangeSpec) : _root_.Go.OpenSpec := { _root_.Go.OpenSpec.ofChange s with cond := some uptoSmall }

/-- 'gabionlaw19.TreeWalks', WHERE WHAT IT READS IS OF BULK AT MOST 1048576: true; the input reads as it did. -/
def treeWalksUptoRow : OpenClaim := { program := "ytbkgmhakiboioaagreatdoor", sum := "307357c4609fd11677af36649cf827f8f00bdb2a29547c55639357f1a7ad90c5", func := "gabion/gabionlaw19.TreeWalks", spec := "treeWalks", inPlace := ["internal/bytealg.IndexByteString", "internal/bytealg.IndexString"], unfollowed := true, recurses := true, named := ["internal/bytealg.MaxLen", "unicode/utf8.first", "unicode/utf8.acceptRanges"], plainKeys := false, apart := false, laid := [("unicode/utf8.acceptRanges", laid_unicode_utf8_acceptRanges), ("unicode/utf8.first", laid_unicode_utf8_first)], narrowed := true }
def TreeWalksUptoSaid : Prop := treeWalksUptoRow.holds Tryz.pinned (OpenSpec.upto treeWalksSpec)

/-- 'gabionlaw19.TreeAgrees', WHERE WHAT IT READS IS OF BULK AT MOST 1048576: true; the input reads as it did. -/
def treeAgreesUptoRow : OpenClaim := { program := "ytbkgmhakiboioaagreatdoor", sum := "307357c4609fd11677af36649cf827f8f00bdb2a29547c55639357f1a7ad90c5", func := "gabion/gabionlaw19.TreeAgrees", spec := "treeAgrees", inPlace := ["internal/bytealg.IndexByteString", "internal/bytealg.IndexString"], unfollowed := true, recurses := true, named := ["internal/bytealg.MaxLen", "unicode/utf8.first", "unicode/utf8.acceptRanges"], plainKeys := false, apart := false, laid := [("unicode/utf8.acceptRanges", laid_unicode_utf8_acceptRanges), ("unicode/utf8.first", laid_unicode_utf8_first)], narrowed := true }
def TreeAgreesUptoSaid : Prop := treeAgreesUptoRow.holds Tryz.pinned (OpenSpec.upto treeAgreesSpec)

/-- 'gabionlaw19.TreePlays', WHERE WHAT IT READS IS OF BULK AT MOST 1048576: true; the input reads as it did. -/
def treePlaysUptoRow : OpenClaim := { program := "ytbkgmhakiboioaagreatdoor", sum := "307357c4609fd11677af36649cf827f8f00bdb2a29547c55639357f1a7ad90c5", func := "gabion/gabionlaw19.TreePlays", spec := "treePlays", inPlace := ["internal/bytealg.IndexByteString", "internal/bytealg.IndexString", "maps.clone"], unfollowed := true, recurses := true, named := ["internal/bytealg.MaxLen", "unicode/utf8.first", "unicode/utf8.acceptRanges"], plainKeys := false, apart := false, laid := [("unicode/utf8.acceptRanges", laid_unicode_utf8_acceptRanges), ("unicode/utf8.first", laid_unicode_utf8_first)], narrowed := true }
def TreePlaysUptoSaid : Prop := treePlaysUptoRow.holds Tryz.pinned (OpenSpec.upto treePlaysSpec)

/-- 'gabionlaw19.TreeNone', WHERE WHAT IT READS IS OF BULK AT MOST 1048576: true; the input reads as it did. -/
def treeNoneUptoRow : OpenClaim := { program := "ytbkgmhakiboioaagreatdoor", sum := "307357c4609fd11677af36649cf827f8f00bdb2a29547c55639357f1a7ad90c5", func := "gabion/gabionlaw19.TreeNone", spec := "treeNone", inPlace := ["internal/bytealg.IndexByteString", "internal/bytealg.IndexString", "maps.clone"], unfollowed := true, recurses := true, named := ["unicode/utf8.first", "unicode/utf8.acceptRanges", "internal/bytealg.MaxLen"], plainKeys := false, apart := false, laid := [("unicode/utf8.acceptRanges", laid_unicode_utf8_acceptRanges), ("unicode/utf8.first", laid_unicode_utf8_first)], narrowed := true }
def TreeNoneUptoSaid : Prop := treeNoneUptoRow.holds Tryz.pinned (OpenSpec.upto treeNoneSpec)

/-- 'gabionlaw19.TreeBuilds', WHERE WHAT IT READS IS OF BULK AT MOST 1048576: true; the input reads as it did. -/
def treeBuildsUptoRow : OpenClaim := { program := "ytbkgmhakiboioaagreatdoor", sum := "307357c4609fd11677af36649cf827f8f00bdb2a29547c55639357f1a7ad90c5", func := "gabion/gabionlaw19.TreeBuilds", spec := "treeBuilds", inPlace := ["internal/bytealg.IndexByteString", "internal/bytealg.IndexString"], unfollowed := true, recurses := true, named := ["internal/bytealg.MaxLen", "unicode/utf8.first", "unicode/utf8.acceptRanges"], plainKeys := false, apart := false, laid := [("unicode/utf8.acceptRanges", laid_unicode_utf8_acceptRanges), ("unicode/utf8.first", laid_unicode_utf8_first)], narrowed := true }
def TreeBuildsUptoSaid : Prop := treeBuildsUptoRow.holds Tryz.pinned (OpenSpec.upto treeBuildsSpec)

/-- 'gabionlaw19.TreeReaps', WHERE WHAT IT READS IS OF BULK AT MOST 1048576: true; the input reads as it did. -/
def treeReapsUptoRow : OpenClaim := { program := "ytbkgmhakiboioaagreatdoor", sum := "307357c4609fd11677af36649cf827f8f00bdb2a29547c55639357f1a7ad90c5", func := "gabion/gabionlaw19.TreeReaps", spec := "treeReaps", inPlace := ["internal/bytealg.IndexByteString", "internal/bytealg.IndexString", "maps.clone"], unfollowed := true, recurses := true, named := ["internal/bytealg.MaxLen", "unicode/utf8.first", "unicode/utf8.acceptRanges"], plainKeys := false, apart := false, laid := [("unicode/utf8.acceptRanges", laid_unicode_utf8_acceptRanges), ("unicode/utf8.first", laid_unicode_utf8_first)], narrowed := true }
def TreeReapsUptoSaid : Prop := treeReapsUptoRow.holds Tryz.pinned (OpenSpec.upto treeReapsSpec)

/-- 'gabionlaw29.ModelRuns', WHERE WHAT IT READS IS OF BULK AT MOST 1048576: true; the input reads as it did. -/
def modelRunsUptoRow : OpenClaim := { program := "ytbkgmhakiboioaagreatdoor", sum := "307357c4609fd11677af36649cf827f8f00bdb2a29547c55639357f1a7ad90c5", func := "gabion/gabionlaw29.ModelRuns", spec := "modelRuns", inPlace := ["internal/abi.NoEscape", "internal/bytealg.MakeNoZero", "internal/bytealg.IndexByteString", "internal/bytealg.IndexString"], unfollowed := true, recurses := true, named := ["internal/bytealg.MaxLen", "unicode/utf8.first", "unicode/utf8.acceptRanges", "internal/strconv.uint64pow10", "math/bits.deBruijn32tab", "math/bits.deBruijn64tab"], plainKeys := false, apart := false, laid := [("math/bits.deBruijn32tab", laid_math_bits_deBruijn32tab), ("math/bits.deBruijn64tab", laid_math_bits_deBruijn64tab), ("internal/strconv.uint64pow10", laid_internal_strconv_uint64pow10), ("unicode/utf8.acceptRanges", laid_unicode_utf8_acceptRanges), ("unicode/utf8.first", laid_unicode_utf8_first)], narrowed := true }
def ModelRunsUptoSaid : Prop := modelRunsUptoRow.holds Tryz.pinned (OpenSpec.upto modelRunsSpec)

/-- 'gabionlaw29.ModelCopies', WHERE WHAT IT READS IS OF BULK AT MOST 1048576: true; the input reads as it did. -/
def modelCopiesUptoRow : OpenClaim := { program := "ytbkgmhakiboioaagreatdoor", sum := "307357c4609fd11677af36649cf827f8f00bdb2a29547c55639357f1a7ad90c5", func := "gabion/gabionlaw29.ModelCopies", spec := "modelCopies", inPlace := ["internal/abi.NoEscape", "internal/bytealg.MakeNoZero", "internal/bytealg.IndexByteString", "internal/bytealg.IndexString", "maps.clone"], unfollowed := true, recurses := true, named := ["internal/bytealg.MaxLen", "unicode/utf8.first", "unicode/utf8.acceptRanges", "internal/strconv.uint64pow10", "math/bits.deBruijn32tab", "math/bits.deBruijn64tab"], plainKeys := false, apart := false, laid := [("math/bits.deBruijn32tab", laid_math_bits_deBruijn32tab), ("math/bits.deBruijn64tab", laid_math_bits_deBruijn64tab), ("internal/strconv.uint64pow10", laid_internal_strconv_uint64pow10), ("unicode/utf8.acceptRanges", laid_unicode_utf8_acceptRanges), ("unicode/utf8.first", laid_unicode_utf8_first)], narrowed := true }
def ModelCopiesUptoSaid : Prop := modelCopiesUptoRow.holds Tryz.pinned (OpenSpec.upto modelCopiesSpec)

end Rows
end Go.Proofs.YtbkgmhakiboioaaGreatDoor
