/-
  NARROWER THAN 'FOR EVERY INPUT', by the rows' own cells (each row's printed sentence says how): FnExactWalSync: laid · FnExactWalCount: laid · FnExactWalRead: laid · FnExactWalRepair: laid · FnExactWalAppend: laid · FnExactWalCompact: laid · FnWal: laid · FnCompact: laid.
  DERIVED. THE GIVEN ROWS OF THIS SEAT. 8 by the template 'for every input the law returns true; each argument reads behind the call as it read before'; 0 by the template 'total and deterministic' (their statements: YtcgojdhbphocgaaDoorTotals.lean).
  GIVEN WITH THE SEED: the statements are not yours to turn. If you find one false, say at which input.
  Laid BY PROGRAM, IN A SANDBOX (cutbox-rows.mjs): the forced cells as the released guide's own fill.sh prints them over the translation ae9b49cc5f059b4c… (all of the seat's roots in one cut). By AI agents, Wed Nov 11 2026. No macro, syntax, notation, axiom, sorry.
-/
import Derived.Test.YtcgojdhbphocgaaDoorChecked
import GoSem.PinnedTables
import GoSem.Claim
import GoSem.ClaimJoined
import GoSem.ClaimMapViews
import Derived.JoinedTies
import Derived.KernelRfl
namespace Go.Proofs.YtcgojdhbphocgaaDoor
/- THE CELL 'sum', in the pinned program and in every row, IS THE sha256 OF THE DUMP (.gsa) THAT YtcgojdhbphocgaaDoorProg.lean LOADS. Nothing in Lean hashes anything: it is a label: what it is worth is what the hold of that sum in a sandbox is worth. -/
noncomputable def Tryd.pinned : Pinned := { name := "ytcgojdhbphocgaadoor", sum := "ae9b49cc5f059b4c94573b92d1e776d32270b4e8ad189b02dc2969c5eb9239f5", checked := Tryd.checked }
namespace Rows
def none {H : Type} : Left H := { results := [], args := [] }

/- WHAT THE LISTED PACKAGE-LEVEL VARIABLES READ AS WHEN THE CALL BEGINS. Each datum BY PROGRAM (the guide's laid-datum.mjs) off the statement by which the dump's own 'gosem.cut.vars' lays the variable. In a bare row this is a premise. The card (YtcgojdhbphocgaaDoorCards.lean) ties it to the program's text. -/
def laid_unicode_utf8_acceptRanges {H : Type} : DataW H := .agg [.agg [.lit (.int .u8 128), .lit (.int .u8 191)], .agg [.lit (.int .u8 160), .lit (.int .u8 191)], .agg [.lit (.int .u8 128), .lit (.int .u8 159)], .agg [.lit (.int .u8 144), .lit (.int .u8 191)], .agg [.lit (.int .u8 128), .lit (.int .u8 143)], .agg [.lit (.int .u8 0), .lit (.int .u8 0)], .agg [.lit (.int .u8 0), .lit (.int .u8 0)], .agg [.lit (.int .u8 0), .lit (.int .u8 0)], .agg [.lit (.int .u8 0), .lit (.int .u8 0)], .agg [.lit (.int .u8 0), .lit (.int .u8 0)], .agg [.lit (.int .u8 0), .lit (.int .u8 0)], .agg [.lit (.int .u8 0), .lit (.int .u8 0)], .agg [.lit (.int .u8 0), .lit (.int .u8 0)], .agg [.lit (.int .u8 0), .lit (.int .u8 0)], .agg [.lit (.int .u8 0), .lit (.int .u8 0)], .agg [.lit (.int .u8 0), .lit (.int .u8 0)]]
/-- One of Go's own tables, pinned by name: the form's constant. -/
def laid_unicode_utf8_first : DataW Unit := Go.Pinned.utf8First

/-- 'laws.FnExactWalSync': WHATEVER THE INPUT: true; the input reads as it did. -/
def fnExactWalSyncSpec : ChangeSpec := { name := "fnExactWalSync", fn := fun _ => fun
  | [d] => { results := [.lit (.bool true)], args := [d] }
  | _ => none }
def fnExactWalSyncRow : OpenClaim := { program := "ytcgojdhbphocgaadoor", sum := "ae9b49cc5f059b4c94573b92d1e776d32270b4e8ad189b02dc2969c5eb9239f5", func := "loop.example/g00138/laws.FnExactWalSync", spec := "fnExactWalSync", inPlace := ["internal/bytealg.IndexByteString", "internal/bytealg.IndexString"], unfollowed := true, recurses := true, named := ["unicode/utf8.first", "unicode/utf8.acceptRanges", "internal/bytealg.MaxLen"], apart := false, laid := [("unicode/utf8.acceptRanges", laid_unicode_utf8_acceptRanges), ("unicode/utf8.first", laid_unicode_utf8_first)] }
def FnExactWalSyncSaid : Prop := fnExactWalSyncRow.holds Tryd.pinned (OpenSpec.ofChange fnExactWalSyncSpec)

/-- ITS FALSE NEIGHBOUR: 'it returns false'. Refute it at one input. -/
def fnExactWalSyncWrong : ChangeSpec := { name := "fnExactWalSync", fn := fun _ => fun
  | [d] => { results := [.lit (.bool false)], args := [d] }
  | _ => none }
def FnExactWalSyncWrongFalsely : Prop := fnExactWalSyncRow.holds Tryd.pinned (OpenSpec.ofChange fnExactWalSyncWrong)

/-- 'laws.FnExactWalCount': WHATEVER THE INPUT: true; the input reads as it did. -/
def fnExactWalCountSpec : ChangeSpec := { name := "fnExactWalCount", fn := fun _ => fun
  | [d] => { results := [.lit (.bool true)], args := [d] }
  | _ => none }
def fnExactWalCountRow : OpenClaim := { program := "ytcgojdhbphocgaadoor", sum := "ae9b49cc5f059b4c94573b92d1e776d32270b4e8ad189b02dc2969c5eb9239f5", func := "loop.example/g00138/laws.FnExactWalCount", spec := "fnExactWalCount", inPlace := ["internal/bytealg.IndexByteString", "internal/bytealg.IndexString"], unfollowed := true, recurses := true, named := ["unicode/utf8.first", "unicode/utf8.acceptRanges", "encoding/binary.LittleEndian", "internal/bytealg.MaxLen"], apart := false, laid := [("unicode/utf8.acceptRanges", laid_unicode_utf8_acceptRanges), ("unicode/utf8.first", laid_unicode_utf8_first)] }
def FnExactWalCountSaid : Prop := fnExactWalCountRow.holds Tryd.pinned (OpenSpec.ofChange fnExactWalCountSpec)

/-- ITS FALSE NEIGHBOUR: 'it returns false'. Refute it at one input. -/
def fnExactWalCountWrong : ChangeSpec := { name := "fnExactWalCount", fn := fun _ => fun
  | [d] => { results := [.lit (.bool false)], args := [d] }
  | _ => none }
def FnExactWalCountWrongFalsely : Prop := fnExactWalCountRow.holds Tryd.pinned (OpenSpec.ofChange fnExactWalCountWrong)

/-- 'laws.FnExactWalRead': WHATEVER THE INPUT: true; the input reads as it did. -/
def fnExactWalReadSpec : ChangeSpec := { name := "fnExactWalRead", fn := fun _ => fun
  | [d] => { results := [.lit (.bool true)], args := [d] }
  | _ => none }
def fnExactWalReadRow : OpenClaim := { program := "ytcgojdhbphocgaadoor", sum := "ae9b49cc5f059b4c94573b92d1e776d32270b4e8ad189b02dc2969c5eb9239f5", func := "loop.example/g00138/laws.FnExactWalRead", spec := "fnExactWalRead", inPlace := ["internal/bytealg.IndexByteString", "internal/bytealg.IndexString"], unfollowed := true, recurses := true, named := ["unicode/utf8.first", "unicode/utf8.acceptRanges", "encoding/binary.LittleEndian", "internal/bytealg.MaxLen"], apart := false, laid := [("unicode/utf8.acceptRanges", laid_unicode_utf8_acceptRanges), ("unicode/utf8.first", laid_unicode_utf8_first)] }
def FnExactWalReadSaid : Prop := fnExactWalReadRow.holds Tryd.pinned (OpenSpec.ofChange fnExactWalReadSpec)

/-- ITS FALSE NEIGHBOUR: 'it returns false'. Refute it at one input. -/
def fnExactWalReadWrong : ChangeSpec := { name := "fnExactWalRead", fn := fun _ => fun
  | [d] => { results := [.lit (.bool false)], args := [d] }
  | _ => none }
def FnExactWalReadWrongFalsely : Prop := fnExactWalReadRow.holds Tryd.pinned (OpenSpec.ofChange fnExactWalReadWrong)

/-- 'laws.FnExactWalRepair': WHATEVER THE INPUT: true; the input reads as it did. -/
def fnExactWalRepairSpec : ChangeSpec := { name := "fnExactWalRepair", fn := fun _ => fun
  | [d] => { results := [.lit (.bool true)], args := [d] }
  | _ => none }
def fnExactWalRepairRow : OpenClaim := { program := "ytcgojdhbphocgaadoor", sum := "ae9b49cc5f059b4c94573b92d1e776d32270b4e8ad189b02dc2969c5eb9239f5", func := "loop.example/g00138/laws.FnExactWalRepair", spec := "fnExactWalRepair", inPlace := ["internal/bytealg.IndexByteString", "internal/bytealg.IndexString"], unfollowed := true, recurses := true, named := ["unicode/utf8.first", "unicode/utf8.acceptRanges", "encoding/binary.LittleEndian", "internal/bytealg.MaxLen"], apart := false, laid := [("unicode/utf8.acceptRanges", laid_unicode_utf8_acceptRanges), ("unicode/utf8.first", laid_unicode_utf8_first)] }
def FnExactWalRepairSaid : Prop := fnExactWalRepairRow.holds Tryd.pinned (OpenSpec.ofChange fnExactWalRepairSpec)

/-- ITS FALSE NEIGHBOUR: 'it returns false'. Refute it at one input. -/
def fnExactWalRepairWrong : ChangeSpec := { name := "fnExactWalRepair", fn := fun _ => fun
  | [d] => { results := [.lit (.bool false)], args := [d] }
  | _ => none }
def FnExactWalRepairWrongFalsely : Prop := fnExactWalRepairRow.holds Tryd.pinned (OpenSpec.ofChange fnExactWalRepairWrong)

/-- 'laws.FnExactWalAppend': WHATEVER THE INPUT: true; the input reads as it did. -/
def fnExactWalAppendSpec : ChangeSpec := { name := "fnExactWalAppend", fn := fun _ => fun
  | [d1, d2] => { results := [.lit (.bool true)], args := [d1, d2] }
  | _ => none }
def fnExactWalAppendRow : OpenClaim := { program := "ytcgojdhbphocgaadoor", sum := "ae9b49cc5f059b4c94573b92d1e776d32270b4e8ad189b02dc2969c5eb9239f5", func := "loop.example/g00138/laws.FnExactWalAppend", spec := "fnExactWalAppend", inPlace := ["internal/bytealg.IndexByteString", "internal/bytealg.IndexString", "slices.overlaps[loop.example/g00138/impl.File]"], unfollowed := true, recurses := true, named := ["encoding/binary.LittleEndian", "unicode/utf8.first", "unicode/utf8.acceptRanges", "internal/bytealg.MaxLen"], apart := false, laid := [("unicode/utf8.acceptRanges", laid_unicode_utf8_acceptRanges), ("unicode/utf8.first", laid_unicode_utf8_first)] }
def FnExactWalAppendSaid : Prop := fnExactWalAppendRow.holds Tryd.pinned (OpenSpec.ofChange fnExactWalAppendSpec)

/-- ITS FALSE NEIGHBOUR: 'it returns false'. Refute it at one input. -/
def fnExactWalAppendWrong : ChangeSpec := { name := "fnExactWalAppend", fn := fun _ => fun
  | [d1, d2] => { results := [.lit (.bool false)], args := [d1, d2] }
  | _ => none }
def FnExactWalAppendWrongFalsely : Prop := fnExactWalAppendRow.holds Tryd.pinned (OpenSpec.ofChange fnExactWalAppendWrong)

/-- 'laws.FnExactWalCompact': WHATEVER THE INPUT: true; the input reads as it did. -/
def fnExactWalCompactSpec : ChangeSpec := { name := "fnExactWalCompact", fn := fun _ => fun
  | [d1, d2] => { results := [.lit (.bool true)], args := [d1, d2] }
  | _ => none }
def fnExactWalCompactRow : OpenClaim := { program := "ytcgojdhbphocgaadoor", sum := "ae9b49cc5f059b4c94573b92d1e776d32270b4e8ad189b02dc2969c5eb9239f5", func := "loop.example/g00138/laws.FnExactWalCompact", spec := "fnExactWalCompact", inPlace := ["internal/bytealg.IndexByteString", "internal/bytealg.IndexString", "slices.overlaps[loop.example/g00138/impl.File]"], unfollowed := true, recurses := true, named := ["unicode/utf8.first", "unicode/utf8.acceptRanges", "encoding/binary.LittleEndian", "internal/bytealg.MaxLen"], apart := false, laid := [("unicode/utf8.acceptRanges", laid_unicode_utf8_acceptRanges), ("unicode/utf8.first", laid_unicode_utf8_first)] }
def FnExactWalCompactSaid : Prop := fnExactWalCompactRow.holds Tryd.pinned (OpenSpec.ofChange fnExactWalCompactSpec)

/-- ITS FALSE NEIGHBOUR: 'it returns false'. Refute it at one input. -/
def fnExactWalCompactWrong : ChangeSpec := { name := "fnExactWalCompact", fn := fun _ => fun
  | [d1, d2] => { results := [.lit (.bool false)], args := [d1, d2] }
  | _ => none }
def FnExactWalCompactWrongFalsely : Prop := fnExactWalCompactRow.holds Tryd.pinned (OpenSpec.ofChange fnExactWalCompactWrong)

/-- 'laws.FnWal': WHATEVER THE INPUT: true; the input reads as it did. -/
def fnWalSpec : ChangeSpec := { name := "fnWal", fn := fun _ => fun
  | [d] => { results := [.lit (.bool true)], args := [d] }
  | _ => none }
def fnWalRow : OpenClaim := { program := "ytcgojdhbphocgaadoor", sum := "ae9b49cc5f059b4c94573b92d1e776d32270b4e8ad189b02dc2969c5eb9239f5", func := "loop.example/g00138/laws.FnWal", spec := "fnWal", inPlace := ["internal/bytealg.IndexByteString", "internal/bytealg.IndexString", "slices.overlaps[loop.example/g00138/impl.File]"], unfollowed := true, recurses := true, named := ["encoding/binary.LittleEndian", "unicode/utf8.first", "unicode/utf8.acceptRanges", "internal/bytealg.MaxLen"], apart := false, laid := [("unicode/utf8.acceptRanges", laid_unicode_utf8_acceptRanges), ("unicode/utf8.first", laid_unicode_utf8_first)] }
def FnWalSaid : Prop := fnWalRow.holds Tryd.pinned (OpenSpec.ofChange fnWalSpec)

/-- ITS FALSE NEIGHBOUR: 'it returns false'. Refute it at one input. -/
def fnWalWrong : ChangeSpec := { name := "fnWal", fn := fun _ => fun
  | [d] => { results := [.lit (.bool false)], args := [d] }
  | _ => none }
def FnWalWrongFalsely : Prop := fnWalRow.holds Tryd.pinned (OpenSpec.ofChange fnWalWrong)

/-- 'laws.FnCompact': WHATEVER THE INPUT: true; the input reads as it did. -/
def fnCompactSpec : ChangeSpec := { name := "fnCompact", fn := fun _ => fun
  | [d] => { results := [.lit (.bool true)], args := [d] }
  | _ => none }
def fnCompactRow : OpenClaim := { program := "ytcgojdhbphocgaadoor", sum := "ae9b49cc5f059b4c94573b92d1e776d32270b4e8ad189b02dc2969c5eb9239f5", func := "loop.example/g00138/laws.FnCompact", spec := "fnCompact", inPlace := ["internal/bytealg.IndexByteString", "internal/bytealg.IndexString", "slices.overlaps[loop.example/g00138/impl.File]"], unfollowed := true, recurses := true, named := ["encoding/binary.LittleEndian", "unicode/utf8.first", "unicode/utf8.acceptRanges", "internal/bytealg.MaxLen"], apart := false, laid := [("unicode/utf8.acceptRanges", laid_unicode_utf8_acceptRanges), ("unicode/utf8.first", laid_unicode_utf8_first)] }
def FnCompactSaid : Prop := fnCompactRow.holds Tryd.pinned (OpenSpec.ofChange fnCompactSpec)

/-- ITS FALSE NEIGHBOUR: 'it returns false'. Refute it at one input. -/
def fnCompactWrong : ChangeSpec := { name := "fnCompact", fn := fun _ => fun
  | [d] => { results := [.lit (.bool false)], args := [d] }
  | _ => none }
def FnCompactWrongFalsely : Prop := fnCompactRow.holds Tryd.pinned (OpenSpec.ofChange fnCompactWrong)

/- THE SECOND FORM. 'bulk': how many values and letters a reading holds, each counted each time it is reached (what is shared counts as often as it is met; a slice's spare places count too). A statement '..UptoSaid' is the law's where the arguments, and the package variables that the reading takes, are together of bulk at most 1048576: NARROWER than '..Said'. Prove '..Said' where nothing that the law and all that it calls make is longer than what came in: it says more and counts as full. Else prove '..UptoSaid'. A law counts once. -/
mutual
def uptoBulk {H : Type} : DataW H → Nat
  | .lit (.string bytes) => bytes.length + 1
  | .lit _ => 1
  | .nil => 1
  | .ptr d => uptoBulk d + 1
  | .slice elems spare => uptoBulkAll elems + uptoBulkAll spare + 1
  | .agg parts => uptoBulkAll parts + 1
  | .iface _ d => uptoBulk d + 1
  | .map entries => uptoBulkEntries entries + 1
  | .held _ => 1
def uptoBulkAll {H : Type} : List (DataW H) → Nat
  | [] => 0
  | d :: r => uptoBulk d + uptoBulkAll r
def uptoBulkEntries {H : Type} : List (Lit × DataW H) → Nat
  | [] => 0
  | x :: r => uptoBulkEntry x + uptoBulkEntries r
def uptoBulkEntry {H : Type} : Lit × DataW H → Nat
  | (.string bytes, d) => bytes.length + uptoBulk d + 1
  | (_, d) => uptoBulk d + 1
 end
def uptoSmall : (H : Type) → List (DataW H) → Bool := fun _ ds => decide (uptoBulkAll ds ≤ 1048576)
def OpenSpec.upto (s : _root_.Go.ChangeSpec) : _root_.Go.OpenSpec := { _root_.Go.OpenSpec.ofChange s with cond := some uptoSmall }

/-- 'laws.FnExactWalSync', WHERE WHAT IT READS IS OF BULK AT MOST 1048576: true; the input reads as it did. -/
def fnExactWalSyncUptoRow : OpenClaim := { program := "ytcgojdhbphocgaadoor", sum := "ae9b49cc5f059b4c94573b92d1e776d32270b4e8ad189b02dc2969c5eb9239f5", func := "loop.example/g00138/laws.FnExactWalSync", spec := "fnExactWalSync", inPlace := ["internal/bytealg.IndexByteString", "internal/bytealg.IndexString"], unfollowed := true, recurses := true, named := ["unicode/utf8.first", "unicode/utf8.acceptRanges", "internal/bytealg.MaxLen"], apart := false, laid := [("unicode/utf8.acceptRanges", laid_unicode_utf8_acceptRanges), ("unicode/utf8.first", laid_unicode_utf8_first)], narrowed := true }
def FnExactWalSyncUptoSaid : Prop := fnExactWalSyncUptoRow.holds Tryd.pinned (OpenSpec.upto fnExactWalSyncSpec)

/-- 'laws.FnExactWalCount', WHERE WHAT IT READS IS OF BULK AT MOST 1048576: true; the input reads as it did. -/
def fnExactWalCountUptoRow : OpenClaim := { program := "ytcgojdhbphocgaadoor", sum := "ae9b49cc5f059b4c94573b92d1e776d32270b4e8ad189b02dc2969c5eb9239f5", func := "loop.example/g00138/laws.FnExactWalCount", spec := "fnExactWalCount", inPlace := ["internal/bytealg.IndexByteString", "internal/bytealg.IndexString"], unfollowed := true, recurses := true, named := ["unicode/utf8.first", "unicode/utf8.acceptRanges", "encoding/binary.LittleEndian", "internal/bytealg.MaxLen"], apart := false, laid := [("unicode/utf8.acceptRanges", laid_unicode_utf8_acceptRanges), ("unicode/utf8.first", laid_unicode_utf8_first)], narrowed := true }
def FnExactWalCountUptoSaid : Prop := fnExactWalCountUptoRow.holds Tryd.pinned (OpenSpec.upto fnExactWalCountSpec)

/-- 'laws.FnExactWalRead', WHERE WHAT IT READS IS OF BULK AT MOST 1048576: true; the input reads as it did. -/
def fnExactWalReadUptoRow : OpenClaim := { program := "ytcgojdhbphocgaadoor", sum := "ae9b49cc5f059b4c94573b92d1e776d32270b4e8ad189b02dc2969c5eb9239f5", func := "loop.example/g00138/laws.FnExactWalRead", spec := "fnExactWalRead", inPlace := ["internal/bytealg.IndexByteString", "internal/bytealg.IndexString"], unfollowed := true, recurses := true, named := ["unicode/utf8.first", "unicode/utf8.acceptRanges", "encoding/binary.LittleEndian", "internal/bytealg.MaxLen"], apart := false, laid := [("unicode/utf8.acceptRanges", laid_unicode_utf8_acceptRanges), ("unicode/utf8.first", laid_unicode_utf8_first)], narrowed := true }
def FnExactWalReadUptoSaid : Prop := fnExactWalReadUptoRow.holds Tryd.pinned (OpenSpec.upto fnExactWalReadSpec)

/-- 'laws.FnExactWalRepair', WHERE WHAT IT READS IS OF BULK AT MOST 1048576: true; the input reads as it did. -/
def fnExactWalRepairUptoRow : OpenClaim := { program := "ytcgojdhbphocgaadoor", sum := "ae9b49cc5f059b4c94573b92d1e776d32270b4e8ad189b02dc2969c5eb9239f5", func := "loop.example/g00138/laws.FnExactWalRepair", spec := "fnExactWalRepair", inPlace := ["internal/bytealg.IndexByteString", "internal/bytealg.IndexString"], unfollowed := true, recurses := true, named := ["unicode/utf8.first", "unicode/utf8.acceptRanges", "encoding/binary.LittleEndian", "internal/bytealg.MaxLen"], apart := false, laid := [("unicode/utf8.acceptRanges", laid_unicode_utf8_acceptRanges), ("unicode/utf8.first", laid_unicode_utf8_first)], narrowed := true }
def FnExactWalRepairUptoSaid : Prop := fnExactWalRepairUptoRow.holds Tryd.pinned (OpenSpec.upto fnExactWalRepairSpec)

/-- 'laws.FnExactWalAppend', WHERE WHAT IT READS IS OF BULK AT MOST 1048576: true; the input reads as it did. -/
def fnExactWalAppendUptoRow : OpenClaim := { program := "ytcgojdhbphocgaadoor", sum := "ae9b49cc5f059b4c94573b92d1e776d32270b4e8ad189b02dc2969c5eb9239f5", func := "loop.example/g00138/laws.FnExactWalAppend", spec := "fnExactWalAppend", inPlace := ["internal/bytealg.IndexByteString", "internal/bytealg.IndexString", "slices.overlaps[loop.example/g00138/impl.File]"], unfollowed := true, recurses := true, named := ["encoding/binary.LittleEndian", "unicode/utf8.first", "unicode/utf8.acceptRanges", "internal/bytealg.MaxLen"], apart := false, laid := [("unicode/utf8.acceptRanges", laid_unicode_utf8_acceptRanges), ("unicode/utf8.first", laid_unicode_utf8_first)], narrowed := true }
def FnExactWalAppendUptoSaid : Prop := fnExactWalAppendUptoRow.holds Tryd.pinned (OpenSpec.upto fnExactWalAppendSpec)

/-- 'laws.FnExactWalCompact', WHERE WHAT IT READS IS OF BULK AT MOST 1048576: true; the input reads as it did. -/
def fnExactWalCompactUptoRow : OpenClaim := { program := "ytcgojdhbphocgaadoor", sum := "ae9b49cc5f059b4c94573b92d1e776d32270b4e8ad189b02dc2969c5eb9239f5", func := "loop.example/g00138/laws.FnExactWalCompact", spec := "fnExactWalCompact", inPlace := ["internal/bytealg.IndexByteString", "internal/bytealg.IndexString", "slices.overlaps[loop.example/g00138/impl.File]"], unfollowed := true, recurses := true, named := ["unicode/utf8.first", "unicode/utf8.acceptRanges", "encoding/binary.LittleEndian", "internal/bytealg.MaxLen"], apart := false, laid := [("unicode/utf8.acceptRanges", laid_unicode_utf8_acceptRanges), ("unicode/utf8.first", laid_unicode_utf8_first)], narrowed := true }
def FnExactWalCompactUptoSaid : Prop := fnExactWalCompactUptoRow.holds Tryd.pinned (OpenSpec.upto fnExactWalCompactSpec)

/-- 'laws.FnWal', WHERE WHAT IT READS IS OF BULK AT MOST 1048576: true; the input reads as it did. -/
def fnWalUptoRow : OpenClaim := { program := "ytcgojdhbphocgaadoor", sum := "ae9b49cc5f059b4c94573b92d1e776d32270b4e8ad189b02dc2969c5eb9239f5", func := "loop.example/g00138/laws.FnWal", spec := "fnWal", inPlace := ["internal/bytealg.IndexByteString", "internal/bytealg.IndexString", "slices.overlaps[loop.example/g00138/impl.File]"], unfollowed := true, recurses := true, named := ["encoding/binary.LittleEndian", "unicode/utf8.first", "unicode/utf8.acceptRanges", "internal/bytealg.MaxLen"], apart := false, laid := [("unicode/utf8.acceptRanges", laid_unicode_utf8_acceptRanges), ("unicode/utf8.first", laid_unicode_utf8_first)], narrowed := true }
def FnWalUptoSaid : Prop := fnWalUptoRow.holds Tryd.pinned (OpenSpec.upto fnWalSpec)

/-- 'laws.FnCompact', WHERE WHAT IT READS IS OF BULK AT MOST 1048576: true; the input reads as it did. -/
def fnCompactUptoRow : OpenClaim := { program := "ytcgojdhbphocgaadoor", sum := "ae9b49cc5f059b4c94573b92d1e776d32270b4e8ad189b02dc2969c5eb9239f5", func := "loop.example/g00138/laws.FnCompact", spec := "fnCompact", inPlace := ["internal/bytealg.IndexByteString", "internal/bytealg.IndexString", "slices.overlaps[loop.example/g00138/impl.File]"], unfollowed := true, recurses := true, named := ["encoding/binary.LittleEndian", "unicode/utf8.first", "unicode/utf8.acceptRanges", "internal/bytealg.MaxLen"], apart := false, laid := [("unicode/utf8.acceptRanges", laid_unicode_utf8_acceptRanges), ("unicode/utf8.first", laid_unicode_utf8_first)], narrowed := true }
def FnCompactUptoSaid : Prop := fnCompactUptoRow.holds Tryd.pinned (OpenSpec.upto fnCompactSpec)

end Rows
end Go.Proofs.YtcgojdhbphocgaaDoor
