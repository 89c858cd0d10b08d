/-
  NARROWER THAN 'FOR EVERY INPUT', by the rows' own cells (each row's printed sentence says how): FnExactDiskOk: laid · FnExactContent: laid · FnExactRemoveFile: laid · FnExactSyncFile: laid · FnExactCutFile: laid · FnExactCrash: laid · FnExactAppendFile: laid · FnExactRenameFile: laid · FnExactPlayDisk: laid · FnFiles: laid · FnCrash: laid.
  DERIVED. THE GIVEN ROWS OF THIS SEAT. 11 by the template 'for every input the law returns true; each argument reads behind the call as it read before'; 0 by the template 'total and deterministic' (their statements: YtmgeffgcihfpcaaDoorTotals.lean).
  GIVEN WITH THE SEED: the statements are not yours to turn. If you find one false, say at which input.
  Laid BY PROGRAM, IN A SANDBOX (cutbox-rows.mjs): the forced cells as the released guide's own fill.sh prints them over the translation a825c58b88990d42… (all of the seat's roots in one cut). By AI agents, Wed Nov 11 2026. No macro, syntax, notation, axiom, sorry.
-/
import Derived.Test.YtmgeffgcihfpcaaDoorChecked
import GoSem.PinnedTables
import GoSem.Claim
import GoSem.ClaimJoined
import GoSem.ClaimMapViews
import Derived.JoinedTies
import Derived.KernelRfl
namespace Go.Proofs.YtmgeffgcihfpcaaDoor
/- THE CELL 'sum', in the pinned program and in every row, IS THE sha256 OF THE DUMP (.gsa) THAT YtmgeffgcihfpcaaDoorProg.lean LOADS. Nothing in Lean hashes anything: it is a label: what it is worth is what the hold of that sum in a sandbox is worth. -/
noncomputable def Tryd.pinned : Pinned := { name := "ytmgeffgcihfpcaadoor", sum := "a825c58b88990d428581cc40c47033d492d068468115008ceacdad7e6375b566", checked := Tryd.checked }
namespace Rows
def none {H : Type} : Left H := { results := [], args := [] }

/- WHAT THE LISTED PACKAGE-LEVEL VARIABLES READ AS WHEN THE CALL BEGINS. Each datum BY PROGRAM (the guide's laid-datum.mjs) off the statement by which the dump's own 'gosem.cut.vars' lays the variable. In a bare row this is a premise. The card (YtmgeffgcihfpcaaDoorCards.lean) ties it to the program's text. -/
def laid_unicode_utf8_acceptRanges {H : Type} : DataW H := .agg [.agg [.lit (.int .u8 128), .lit (.int .u8 191)], .agg [.lit (.int .u8 160), .lit (.int .u8 191)], .agg [.lit (.int .u8 128), .lit (.int .u8 159)], .agg [.lit (.int .u8 144), .lit (.int .u8 191)], .agg [.lit (.int .u8 128), .lit (.int .u8 143)], .agg [.lit (.int .u8 0), .lit (.int .u8 0)], .agg [.lit (.int .u8 0), .lit (.int .u8 0)], .agg [.lit (.int .u8 0), .lit (.int .u8 0)], .agg [.lit (.int .u8 0), .lit (.int .u8 0)], .agg [.lit (.int .u8 0), .lit (.int .u8 0)], .agg [.lit (.int .u8 0), .lit (.int .u8 0)], .agg [.lit (.int .u8 0), .lit (.int .u8 0)], .agg [.lit (.int .u8 0), .lit (.int .u8 0)], .agg [.lit (.int .u8 0), .lit (.int .u8 0)], .agg [.lit (.int .u8 0), .lit (.int .u8 0)], .agg [.lit (.int .u8 0), .lit (.int .u8 0)]]
/-- One of Go's own tables, pinned by name: the form's constant. -/
def laid_unicode_utf8_first : DataW Unit := Go.Pinned.utf8First

/-- 'laws.FnExactDiskOk': WHATEVER THE INPUT: true; the input reads as it did. -/
def fnExactDiskOkSpec : ChangeSpec := { name := "fnExactDiskOk", fn := fun _ => fun
  | [d] => { results := [.lit (.bool true)], args := [d] }
  | _ => none }
def fnExactDiskOkRow : OpenClaim := { program := "ytmgeffgcihfpcaadoor", sum := "a825c58b88990d428581cc40c47033d492d068468115008ceacdad7e6375b566", func := "loop.example/g00138/laws.FnExactDiskOk", spec := "fnExactDiskOk", inPlace := ["internal/bytealg.IndexByteString", "internal/bytealg.IndexString"], named := ["unicode/utf8.first", "unicode/utf8.acceptRanges", "internal/bytealg.MaxLen"], apart := false, laid := [("unicode/utf8.acceptRanges", laid_unicode_utf8_acceptRanges), ("unicode/utf8.first", laid_unicode_utf8_first)] }
def FnExactDiskOkSaid : Prop := fnExactDiskOkRow.holds Tryd.pinned (OpenSpec.ofChange fnExactDiskOkSpec)

/-- ITS FALSE NEIGHBOUR: 'it returns false'. Refute it at one input. -/
def fnExactDiskOkWrong : ChangeSpec := { name := "fnExactDiskOk", fn := fun _ => fun
  | [d] => { results := [.lit (.bool false)], args := [d] }
  | _ => none }
def FnExactDiskOkWrongFalsely : Prop := fnExactDiskOkRow.holds Tryd.pinned (OpenSpec.ofChange fnExactDiskOkWrong)

/-- 'laws.FnExactContent': WHATEVER THE INPUT: true; the input reads as it did. -/
def fnExactContentSpec : ChangeSpec := { name := "fnExactContent", fn := fun _ => fun
  | [d1, d2] => { results := [.lit (.bool true)], args := [d1, d2] }
  | _ => none }
def fnExactContentRow : OpenClaim := { program := "ytmgeffgcihfpcaadoor", sum := "a825c58b88990d428581cc40c47033d492d068468115008ceacdad7e6375b566", func := "loop.example/g00138/laws.FnExactContent", spec := "fnExactContent", inPlace := ["internal/bytealg.IndexByteString", "internal/bytealg.IndexString"], unfollowed := true, recurses := true, named := ["unicode/utf8.first", "unicode/utf8.acceptRanges", "internal/bytealg.MaxLen"], apart := false, laid := [("unicode/utf8.acceptRanges", laid_unicode_utf8_acceptRanges), ("unicode/utf8.first", laid_unicode_utf8_first)] }
def FnExactContentSaid : Prop := fnExactContentRow.holds Tryd.pinned (OpenSpec.ofChange fnExactContentSpec)

/-- ITS FALSE NEIGHBOUR: 'it returns false'. Refute it at one input. -/
def fnExactContentWrong : ChangeSpec := { name := "fnExactContent", fn := fun _ => fun
  | [d1, d2] => { results := [.lit (.bool false)], args := [d1, d2] }
  | _ => none }
def FnExactContentWrongFalsely : Prop := fnExactContentRow.holds Tryd.pinned (OpenSpec.ofChange fnExactContentWrong)

/-- 'laws.FnExactRemoveFile': WHATEVER THE INPUT: true; the input reads as it did. -/
def fnExactRemoveFileSpec : ChangeSpec := { name := "fnExactRemoveFile", fn := fun _ => fun
  | [d1, d2] => { results := [.lit (.bool true)], args := [d1, d2] }
  | _ => none }
def fnExactRemoveFileRow : OpenClaim := { program := "ytmgeffgcihfpcaadoor", sum := "a825c58b88990d428581cc40c47033d492d068468115008ceacdad7e6375b566", func := "loop.example/g00138/laws.FnExactRemoveFile", spec := "fnExactRemoveFile", inPlace := ["internal/bytealg.IndexByteString", "internal/bytealg.IndexString"], unfollowed := true, recurses := true, named := ["unicode/utf8.first", "unicode/utf8.acceptRanges", "internal/bytealg.MaxLen"], apart := false, laid := [("unicode/utf8.acceptRanges", laid_unicode_utf8_acceptRanges), ("unicode/utf8.first", laid_unicode_utf8_first)] }
def FnExactRemoveFileSaid : Prop := fnExactRemoveFileRow.holds Tryd.pinned (OpenSpec.ofChange fnExactRemoveFileSpec)

/-- ITS FALSE NEIGHBOUR: 'it returns false'. Refute it at one input. -/
def fnExactRemoveFileWrong : ChangeSpec := { name := "fnExactRemoveFile", fn := fun _ => fun
  | [d1, d2] => { results := [.lit (.bool false)], args := [d1, d2] }
  | _ => none }
def FnExactRemoveFileWrongFalsely : Prop := fnExactRemoveFileRow.holds Tryd.pinned (OpenSpec.ofChange fnExactRemoveFileWrong)

/-- 'laws.FnExactSyncFile': WHATEVER THE INPUT: true; the input reads as it did. -/
def fnExactSyncFileSpec : ChangeSpec := { name := "fnExactSyncFile", fn := fun _ => fun
  | [d1, d2] => { results := [.lit (.bool true)], args := [d1, d2] }
  | _ => none }
def fnExactSyncFileRow : OpenClaim := { program := "ytmgeffgcihfpcaadoor", sum := "a825c58b88990d428581cc40c47033d492d068468115008ceacdad7e6375b566", func := "loop.example/g00138/laws.FnExactSyncFile", spec := "fnExactSyncFile", inPlace := ["internal/bytealg.IndexByteString", "internal/bytealg.IndexString"], unfollowed := true, recurses := true, named := ["unicode/utf8.first", "unicode/utf8.acceptRanges", "internal/bytealg.MaxLen"], apart := false, laid := [("unicode/utf8.acceptRanges", laid_unicode_utf8_acceptRanges), ("unicode/utf8.first", laid_unicode_utf8_first)] }
def FnExactSyncFileSaid : Prop := fnExactSyncFileRow.holds Tryd.pinned (OpenSpec.ofChange fnExactSyncFileSpec)

/-- ITS FALSE NEIGHBOUR: 'it returns false'. Refute it at one input. -/
def fnExactSyncFileWrong : ChangeSpec := { name := "fnExactSyncFile", fn := fun _ => fun
  | [d1, d2] => { results := [.lit (.bool false)], args := [d1, d2] }
  | _ => none }
def FnExactSyncFileWrongFalsely : Prop := fnExactSyncFileRow.holds Tryd.pinned (OpenSpec.ofChange fnExactSyncFileWrong)

/-- 'laws.FnExactCutFile': WHATEVER THE INPUT: true; the input reads as it did. -/
def fnExactCutFileSpec : ChangeSpec := { name := "fnExactCutFile", fn := fun _ => fun
  | [d1, d2, d3] => { results := [.lit (.bool true)], args := [d1, d2, d3] }
  | _ => none }
def fnExactCutFileRow : OpenClaim := { program := "ytmgeffgcihfpcaadoor", sum := "a825c58b88990d428581cc40c47033d492d068468115008ceacdad7e6375b566", func := "loop.example/g00138/laws.FnExactCutFile", spec := "fnExactCutFile", inPlace := ["internal/bytealg.IndexByteString", "internal/bytealg.IndexString"], unfollowed := true, recurses := true, named := ["unicode/utf8.first", "unicode/utf8.acceptRanges", "internal/bytealg.MaxLen"], apart := false, laid := [("unicode/utf8.acceptRanges", laid_unicode_utf8_acceptRanges), ("unicode/utf8.first", laid_unicode_utf8_first)] }
def FnExactCutFileSaid : Prop := fnExactCutFileRow.holds Tryd.pinned (OpenSpec.ofChange fnExactCutFileSpec)

/-- ITS FALSE NEIGHBOUR: 'it returns false'. Refute it at one input. -/
def fnExactCutFileWrong : ChangeSpec := { name := "fnExactCutFile", fn := fun _ => fun
  | [d1, d2, d3] => { results := [.lit (.bool false)], args := [d1, d2, d3] }
  | _ => none }
def FnExactCutFileWrongFalsely : Prop := fnExactCutFileRow.holds Tryd.pinned (OpenSpec.ofChange fnExactCutFileWrong)

/-- 'laws.FnExactCrash': WHATEVER THE INPUT: true; the input reads as it did. -/
def fnExactCrashSpec : ChangeSpec := { name := "fnExactCrash", fn := fun _ => fun
  | [d1, d2, d3] => { results := [.lit (.bool true)], args := [d1, d2, d3] }
  | _ => none }
def fnExactCrashRow : OpenClaim := { program := "ytmgeffgcihfpcaadoor", sum := "a825c58b88990d428581cc40c47033d492d068468115008ceacdad7e6375b566", func := "loop.example/g00138/laws.FnExactCrash", spec := "fnExactCrash", inPlace := ["internal/bytealg.IndexByteString", "internal/bytealg.IndexString"], named := ["unicode/utf8.first", "unicode/utf8.acceptRanges", "internal/bytealg.MaxLen"], apart := false, laid := [("unicode/utf8.acceptRanges", laid_unicode_utf8_acceptRanges), ("unicode/utf8.first", laid_unicode_utf8_first)] }
def FnExactCrashSaid : Prop := fnExactCrashRow.holds Tryd.pinned (OpenSpec.ofChange fnExactCrashSpec)

/-- ITS FALSE NEIGHBOUR: 'it returns false'. Refute it at one input. -/
def fnExactCrashWrong : ChangeSpec := { name := "fnExactCrash", fn := fun _ => fun
  | [d1, d2, d3] => { results := [.lit (.bool false)], args := [d1, d2, d3] }
  | _ => none }
def FnExactCrashWrongFalsely : Prop := fnExactCrashRow.holds Tryd.pinned (OpenSpec.ofChange fnExactCrashWrong)

/-- 'laws.FnExactAppendFile': WHATEVER THE INPUT: true; the input reads as it did. -/
def fnExactAppendFileSpec : ChangeSpec := { name := "fnExactAppendFile", fn := fun _ => fun
  | [d1, d2, d3] => { results := [.lit (.bool true)], args := [d1, d2, d3] }
  | _ => none }
def fnExactAppendFileRow : OpenClaim := { program := "ytmgeffgcihfpcaadoor", sum := "a825c58b88990d428581cc40c47033d492d068468115008ceacdad7e6375b566", func := "loop.example/g00138/laws.FnExactAppendFile", spec := "fnExactAppendFile", inPlace := ["internal/bytealg.IndexByteString", "internal/bytealg.IndexString", "slices.overlaps[loop.example/g00138/impl.File]"], unfollowed := true, recurses := true, named := ["unicode/utf8.first", "unicode/utf8.acceptRanges", "internal/bytealg.MaxLen"], apart := false, laid := [("unicode/utf8.acceptRanges", laid_unicode_utf8_acceptRanges), ("unicode/utf8.first", laid_unicode_utf8_first)] }
def FnExactAppendFileSaid : Prop := fnExactAppendFileRow.holds Tryd.pinned (OpenSpec.ofChange fnExactAppendFileSpec)

/-- ITS FALSE NEIGHBOUR: 'it returns false'. Refute it at one input. -/
def fnExactAppendFileWrong : ChangeSpec := { name := "fnExactAppendFile", fn := fun _ => fun
  | [d1, d2, d3] => { results := [.lit (.bool false)], args := [d1, d2, d3] }
  | _ => none }
def FnExactAppendFileWrongFalsely : Prop := fnExactAppendFileRow.holds Tryd.pinned (OpenSpec.ofChange fnExactAppendFileWrong)

/-- 'laws.FnExactRenameFile': WHATEVER THE INPUT: true; the input reads as it did. -/
def fnExactRenameFileSpec : ChangeSpec := { name := "fnExactRenameFile", fn := fun _ => fun
  | [d1, d2, d3] => { results := [.lit (.bool true)], args := [d1, d2, d3] }
  | _ => none }
def fnExactRenameFileRow : OpenClaim := { program := "ytmgeffgcihfpcaadoor", sum := "a825c58b88990d428581cc40c47033d492d068468115008ceacdad7e6375b566", func := "loop.example/g00138/laws.FnExactRenameFile", spec := "fnExactRenameFile", inPlace := ["internal/bytealg.IndexByteString", "internal/bytealg.IndexString", "slices.overlaps[loop.example/g00138/impl.File]"], unfollowed := true, recurses := true, named := ["unicode/utf8.first", "unicode/utf8.acceptRanges", "internal/bytealg.MaxLen"], apart := false, laid := [("unicode/utf8.acceptRanges", laid_unicode_utf8_acceptRanges), ("unicode/utf8.first", laid_unicode_utf8_first)] }
def FnExactRenameFileSaid : Prop := fnExactRenameFileRow.holds Tryd.pinned (OpenSpec.ofChange fnExactRenameFileSpec)

/-- ITS FALSE NEIGHBOUR: 'it returns false'. Refute it at one input. -/
def fnExactRenameFileWrong : ChangeSpec := { name := "fnExactRenameFile", fn := fun _ => fun
  | [d1, d2, d3] => { results := [.lit (.bool false)], args := [d1, d2, d3] }
  | _ => none }
def FnExactRenameFileWrongFalsely : Prop := fnExactRenameFileRow.holds Tryd.pinned (OpenSpec.ofChange fnExactRenameFileWrong)

/-- 'laws.FnExactPlayDisk': WHATEVER THE INPUT: true; the input reads as it did. -/
def fnExactPlayDiskSpec : ChangeSpec := { name := "fnExactPlayDisk", fn := fun _ => fun
  | [d1, d2] => { results := [.lit (.bool true)], args := [d1, d2] }
  | _ => none }
def fnExactPlayDiskRow : OpenClaim := { program := "ytmgeffgcihfpcaadoor", sum := "a825c58b88990d428581cc40c47033d492d068468115008ceacdad7e6375b566", func := "loop.example/g00138/laws.FnExactPlayDisk", spec := "fnExactPlayDisk", inPlace := ["internal/bytealg.IndexByteString", "internal/bytealg.IndexString", "slices.overlaps[loop.example/g00138/impl.File]"], unfollowed := true, recurses := true, named := ["unicode/utf8.first", "unicode/utf8.acceptRanges", "internal/bytealg.MaxLen"], apart := false, laid := [("unicode/utf8.acceptRanges", laid_unicode_utf8_acceptRanges), ("unicode/utf8.first", laid_unicode_utf8_first)] }
def FnExactPlayDiskSaid : Prop := fnExactPlayDiskRow.holds Tryd.pinned (OpenSpec.ofChange fnExactPlayDiskSpec)

/-- ITS FALSE NEIGHBOUR: 'it returns false'. Refute it at one input. -/
def fnExactPlayDiskWrong : ChangeSpec := { name := "fnExactPlayDisk", fn := fun _ => fun
  | [d1, d2] => { results := [.lit (.bool false)], args := [d1, d2] }
  | _ => none }
def FnExactPlayDiskWrongFalsely : Prop := fnExactPlayDiskRow.holds Tryd.pinned (OpenSpec.ofChange fnExactPlayDiskWrong)

/-- 'laws.FnFiles': WHATEVER THE INPUT: true; the input reads as it did. -/
def fnFilesSpec : ChangeSpec := { name := "fnFiles", fn := fun _ => fun
  | [d] => { results := [.lit (.bool true)], args := [d] }
  | _ => none }
def fnFilesRow : OpenClaim := { program := "ytmgeffgcihfpcaadoor", sum := "a825c58b88990d428581cc40c47033d492d068468115008ceacdad7e6375b566", func := "loop.example/g00138/laws.FnFiles", spec := "fnFiles", inPlace := ["internal/bytealg.IndexByteString", "internal/bytealg.IndexString", "slices.overlaps[loop.example/g00138/impl.File]"], unfollowed := true, recurses := true, named := ["unicode/utf8.first", "unicode/utf8.acceptRanges", "internal/bytealg.MaxLen"], apart := false, laid := [("unicode/utf8.acceptRanges", laid_unicode_utf8_acceptRanges), ("unicode/utf8.first", laid_unicode_utf8_first)] }
def FnFilesSaid : Prop := fnFilesRow.holds Tryd.pinned (OpenSpec.ofChange fnFilesSpec)

/-- ITS FALSE NEIGHBOUR: 'it returns false'. Refute it at one input. -/
def fnFilesWrong : ChangeSpec := { name := "fnFiles", fn := fun _ => fun
  | [d] => { results := [.lit (.bool false)], args := [d] }
  | _ => none }
def FnFilesWrongFalsely : Prop := fnFilesRow.holds Tryd.pinned (OpenSpec.ofChange fnFilesWrong)

/-- 'laws.FnCrash': WHATEVER THE INPUT: true; the input reads as it did. -/
def fnCrashSpec : ChangeSpec := { name := "fnCrash", fn := fun _ => fun
  | [d] => { results := [.lit (.bool true)], args := [d] }
  | _ => none }
def fnCrashRow : OpenClaim := { program := "ytmgeffgcihfpcaadoor", sum := "a825c58b88990d428581cc40c47033d492d068468115008ceacdad7e6375b566", func := "loop.example/g00138/laws.FnCrash", spec := "fnCrash", inPlace := ["internal/bytealg.IndexByteString", "internal/bytealg.IndexString", "slices.overlaps[loop.example/g00138/impl.File]"], unfollowed := true, recurses := true, named := ["unicode/utf8.first", "unicode/utf8.acceptRanges", "internal/bytealg.MaxLen"], apart := false, laid := [("unicode/utf8.acceptRanges", laid_unicode_utf8_acceptRanges), ("unicode/utf8.first", laid_unicode_utf8_first)] }
def FnCrashSaid : Prop := fnCrashRow.holds Tryd.pinned (OpenSpec.ofChange fnCrashSpec)

/-- ITS FALSE NEIGHBOUR: 'it returns false'. Refute it at one input. -/
def fnCrashWrong : ChangeSpec := { name := "fnCrash", fn := fun _ => fun
  | [d] => { results := [.lit (.bool false)], args := [d] }
  | _ => none }
def FnCrashWrongFalsely : Prop := fnCrashRow.holds Tryd.pinned (OpenSpec.ofChange fnCrashWrong)

/- THE SECOND FORM. 'bulk': how many values and letters a reading holds, each counted each time it is reached (what is shared counts as often as it is met; a slice's spare places count too). A statement '..UptoSaid' is the law's where the arguments, and the package variables that the reading takes, are together of bulk at most 1048576: NARROWER than '..Said'. Prove '..Said' where nothing that the law and all that it calls make is longer than what came in: it says more and counts as full. Else prove '..UptoSaid'. A law counts once. -/
mutual
def uptoBulk {H : Type} : DataW H → Nat
  | .lit (.string bytes) => bytes.length + 1
  | .lit _ => 1
  | .nil => 1
  | .ptr d => uptoBulk d + 1
  | .slice elems spare => uptoBulkAll elems + uptoBulkAll spare + 1
  | .agg parts => uptoBulkAll parts + 1
  | .iface _ d => uptoBulk d + 1
  | .map entries => uptoBulkEntries entries + 1
  | .held _ => 1
def uptoBulkAll {H : Type} : List (DataW H) → Nat
  | [] => 0
  | d :: r => uptoBulk d + uptoBulkAll r
def uptoBulkEntries {H : Type} : List (Lit × DataW H) → Nat
  | [] => 0
  | x :: r => uptoBulkEntry x + uptoBulkEntries r
def uptoBulkEntry {H : Type} : Lit × DataW H → Nat
  | (.string bytes, d) => bytes.length + uptoBulk d + 1
  | (_, d) => uptoBulk d + 1
 end
def uptoSmall : (H : Type) → List (DataW H) → Bool := fun _ ds => decide (uptoBulkAll ds ≤ 1048576)
def OpenSpec.upto (s : _root_.Go.ChangeSpec) : _root_.Go.OpenSpec := { _root_.Go.OpenSpec.ofChange s with cond := some uptoSmall }

/-- 'laws.FnExactDiskOk', WHERE WHAT IT READS IS OF BULK AT MOST 1048576: true; the input reads as it did. -/
def fnExactDiskOkUptoRow : OpenClaim := { program := "ytmgeffgcihfpcaadoor", sum := "a825c58b88990d428581cc40c47033d492d068468115008ceacdad7e6375b566", func := "loop.example/g00138/laws.FnExactDiskOk", spec := "fnExactDiskOk", inPlace := ["internal/bytealg.IndexByteString", "internal/bytealg.IndexString"], named := ["unicode/utf8.first", "unicode/utf8.acceptRanges", "internal/bytealg.MaxLen"], apart := false, laid := [("unicode/utf8.acceptRanges", laid_unicode_utf8_acceptRanges), ("unicode/utf8.first", laid_unicode_utf8_first)], narrowed := true }
def FnExactDiskOkUptoSaid : Prop := fnExactDiskOkUptoRow.holds Tryd.pinned (OpenSpec.upto fnExactDiskOkSpec)

/-- 'laws.FnExactContent', WHERE WHAT IT READS IS OF BULK AT MOST 1048576: true; the input reads as it did. -/
def fnExactContentUptoRow : OpenClaim := { program := "ytmgeffgcihfpcaadoor", sum := "a825c58b88990d428581cc40c47033d492d068468115008ceacdad7e6375b566", func := "loop.example/g00138/laws.FnExactContent", spec := "fnExactContent", inPlace := ["internal/bytealg.IndexByteString", "internal/bytealg.IndexString"], unfollowed := true, recurses := true, named := ["unicode/utf8.first", "unicode/utf8.acceptRanges", "internal/bytealg.MaxLen"], apart := false, laid := [("unicode/utf8.acceptRanges", laid_unicode_utf8_acceptRanges), ("unicode/utf8.first", laid_unicode_utf8_first)], narrowed := true }
def FnExactContentUptoSaid : Prop := fnExactContentUptoRow.holds Tryd.pinned (OpenSpec.upto fnExactContentSpec)

/-- 'laws.FnExactRemoveFile', WHERE WHAT IT READS IS OF BULK AT MOST 1048576: true; the input reads as it did. -/
def fnExactRemoveFileUptoRow : OpenClaim := { program := "ytmgeffgcihfpcaadoor", sum := "a825c58b88990d428581cc40c47033d492d068468115008ceacdad7e6375b566", func := "loop.example/g00138/laws.FnExactRemoveFile", spec := "fnExactRemoveFile", inPlace := ["internal/bytealg.IndexByteString", "internal/bytealg.IndexString"], unfollowed := true, recurses := true, named := ["unicode/utf8.first", "unicode/utf8.acceptRanges", "internal/bytealg.MaxLen"], apart := false, laid := [("unicode/utf8.acceptRanges", laid_unicode_utf8_acceptRanges), ("unicode/utf8.first", laid_unicode_utf8_first)], narrowed := true }
def FnExactRemoveFileUptoSaid : Prop := fnExactRemoveFileUptoRow.holds Tryd.pinned (OpenSpec.upto fnExactRemoveFileSpec)

/-- 'laws.FnExactSyncFile', WHERE WHAT IT READS IS OF BULK AT MOST 1048576: true; the input reads as it did. -/
def fnExactSyncFileUptoRow : OpenClaim := { program := "ytmgeffgcihfpcaadoor", sum := "a825c58b88990d428581cc40c47033d492d068468115008ceacdad7e6375b566", func := "loop.example/g00138/laws.FnExactSyncFile", spec := "fnExactSyncFile", inPlace := ["internal/bytealg.IndexByteString", "internal/bytealg.IndexString"], unfollowed := true, recurses := true, named := ["unicode/utf8.first", "unicode/utf8.acceptRanges", "internal/bytealg.MaxLen"], apart := false, laid := [("unicode/utf8.acceptRanges", laid_unicode_utf8_acceptRanges), ("unicode/utf8.first", laid_unicode_utf8_first)], narrowed := true }
def FnExactSyncFileUptoSaid : Prop := fnExactSyncFileUptoRow.holds Tryd.pinned (OpenSpec.upto fnExactSyncFileSpec)

/-- 'laws.FnExactCutFile', WHERE WHAT IT READS IS OF BULK AT MOST 1048576: true; the input reads as it did. -/
def fnExactCutFileUptoRow : OpenClaim := { program := "ytmgeffgcihfpcaadoor", sum := "a825c58b88990d428581cc40c47033d492d068468115008ceacdad7e6375b566", func := "loop.example/g00138/laws.FnExactCutFile", spec := "fnExactCutFile", inPlace := ["internal/bytealg.IndexByteString", "internal/bytealg.IndexString"], unfollowed := true, recurses := true, named := ["unicode/utf8.first", "unicode/utf8.acceptRanges", "internal/bytealg.MaxLen"], apart := false, laid := [("unicode/utf8.acceptRanges", laid_unicode_utf8_acceptRanges), ("unicode/utf8.first", laid_unicode_utf8_first)], narrowed := true }
def FnExactCutFileUptoSaid : Prop := fnExactCutFileUptoRow.holds Tryd.pinned (OpenSpec.upto fnExactCutFileSpec)

/-- 'laws.FnExactCrash', WHERE WHAT IT READS IS OF BULK AT MOST 1048576: true; the input reads as it did. -/
def fnExactCrashUptoRow : OpenClaim := { program := "ytmgeffgcihfpcaadoor", sum := "a825c58b88990d428581cc40c47033d492d068468115008ceacdad7e6375b566", func := "loop.example/g00138/laws.FnExactCrash", spec := "fnExactCrash", inPlace := ["internal/bytealg.IndexByteString", "internal/bytealg.IndexString"], named := ["unicode/utf8.first", "unicode/utf8.acceptRanges", "internal/bytealg.MaxLen"], apart := false, laid := [("unicode/utf8.acceptRanges", laid_unicode_utf8_acceptRanges), ("unicode/utf8.first", laid_unicode_utf8_first)], narrowed := true }
def FnExactCrashUptoSaid : Prop := fnExactCrashUptoRow.holds Tryd.pinned (OpenSpec.upto fnExactCrashSpec)

/-- 'laws.FnExactAppendFile', WHERE WHAT IT READS IS OF BULK AT MOST 1048576: true; the input reads as it did. -/
def fnExactAppendFileUptoRow : OpenClaim := { program := "ytmgeffgcihfpcaadoor", sum := "a825c58b88990d428581cc40c47033d492d068468115008ceacdad7e6375b566", func := "loop.example/g00138/laws.FnExactAppendFile", spec := "fnExactAppendFile", inPlace := ["internal/bytealg.IndexByteString", "internal/bytealg.IndexString", "slices.overlaps[loop.example/g00138/impl.File]"], unfollowed := true, recurses := true, named := ["unicode/utf8.first", "unicode/utf8.acceptRanges", "internal/bytealg.MaxLen"], apart := false, laid := [("unicode/utf8.acceptRanges", laid_unicode_utf8_acceptRanges), ("unicode/utf8.first", laid_unicode_utf8_first)], narrowed := true }
def FnExactAppendFileUptoSaid : Prop := fnExactAppendFileUptoRow.holds Tryd.pinned (OpenSpec.upto fnExactAppendFileSpec)

/-- 'laws.FnExactRenameFile', WHERE WHAT IT READS IS OF BULK AT MOST 1048576: true; the input reads as it did. -/
def fnExactRenameFileUptoRow : OpenClaim := { program := "ytmgeffgcihfpcaadoor", sum := "a825c58b88990d428581cc40c47033d492d068468115008ceacdad7e6375b566", func := "loop.example/g00138/laws.FnExactRenameFile", spec := "fnExactRenameFile", inPlace := ["internal/bytealg.IndexByteString", "internal/bytealg.IndexString", "slices.overlaps[loop.example/g00138/impl.File]"], unfollowed := true, recurses := true, named := ["unicode/utf8.first", "unicode/utf8.acceptRanges", "internal/bytealg.MaxLen"], apart := false, laid := [("unicode/utf8.acceptRanges", laid_unicode_utf8_acceptRanges), ("unicode/utf8.first", laid_unicode_utf8_first)], narrowed := true }
def FnExactRenameFileUptoSaid : Prop := fnExactRenameFileUptoRow.holds Tryd.pinned (OpenSpec.upto fnExactRenameFileSpec)

/-- 'laws.FnExactPlayDisk', WHERE WHAT IT READS IS OF BULK AT MOST 1048576: true; the input reads as it did. -/
def fnExactPlayDiskUptoRow : OpenClaim := { program := "ytmgeffgcihfpcaadoor", sum := "a825c58b88990d428581cc40c47033d492d068468115008ceacdad7e6375b566", func := "loop.example/g00138/laws.FnExactPlayDisk", spec := "fnExactPlayDisk", inPlace := ["internal/bytealg.IndexByteString", "internal/bytealg.IndexString", "slices.overlaps[loop.example/g00138/impl.File]"], unfollowed := true, recurses := true, named := ["unicode/utf8.first", "unicode/utf8.acceptRanges", "internal/bytealg.MaxLen"], apart := false, laid := [("unicode/utf8.acceptRanges", laid_unicode_utf8_acceptRanges), ("unicode/utf8.first", laid_unicode_utf8_first)], narrowed := true }
def FnExactPlayDiskUptoSaid : Prop := fnExactPlayDiskUptoRow.holds Tryd.pinned (OpenSpec.upto fnExactPlayDiskSpec)

/-- 'laws.FnFiles', WHERE WHAT IT READS IS OF BULK AT MOST 1048576: true; the input reads as it did. -/
def fnFilesUptoRow : OpenClaim := { program := "ytmgeffgcihfpcaadoor", sum := "a825c58b88990d428581cc40c47033d492d068468115008ceacdad7e6375b566", func := "loop.example/g00138/laws.FnFiles", spec := "fnFiles", inPlace := ["internal/bytealg.IndexByteString", "internal/bytealg.IndexString", "slices.overlaps[loop.example/g00138/impl.File]"], unfollowed := true, recurses := true, named := ["unicode/utf8.first", "unicode/utf8.acceptRanges", "internal/bytealg.MaxLen"], apart := false, laid := [("unicode/utf8.acceptRanges", laid_unicode_utf8_acceptRanges), ("unicode/utf8.first", laid_unicode_utf8_first)], narrowed := true }
def FnFilesUptoSaid : Prop := fnFilesUptoRow.holds Tryd.pinned (OpenSpec.upto fnFilesSpec)

/-- 'laws.FnCrash', WHERE WHAT IT READS IS OF BULK AT MOST 1048576: true; the input reads as it did. -/
def fnCrashUptoRow : OpenClaim := { program := "ytmgeffgcihfpcaadoor", sum := "a825c58b88990d428581cc40c47033d492d068468115008ceacdad7e6375b566", func := "loop.example/g00138/laws.FnCrash", spec := "fnCrash", inPlace := ["internal/bytealg.IndexByteString", "internal/bytealg.IndexString", "slices.overlaps[loop.example/g00138/impl.File]"], unfollowed := true, recurses := true, named := ["unicode/utf8.first", "unicode/utf8.acceptRanges", "internal/bytealg.MaxLen"], apart := false, laid := [("unicode/utf8.acceptRanges", laid_unicode_utf8_acceptRanges), ("unicode/utf8.first", laid_unicode_utf8_first)], narrowed := true }
def FnCrashUptoSaid : Prop := fnCrashUptoRow.holds Tryd.pinned (OpenSpec.upto fnCrashSpec)

end Rows
end Go.Proofs.YtmgeffgcihfpcaaDoor
