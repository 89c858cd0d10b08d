/-
  No cell of these rows narrows 'for every input' (looked for: loops, veiled, ifaces, maps, wideKeys, modest, calm, conditions, laid).
  DERIVED. THE GIVEN ROWS OF THIS SEAT. 7 by the template 'for every input the law returns true; each argument reads behind the call as it read before'; 0 by the template 'total and deterministic' (their statements: YtikmbfppjmbolaaTotals.lean).
  GIVEN WITH THE SEED: the statements are not yours to turn. If you find one false, say at which input.
  Laid BY PROGRAM, IN A SANDBOX (cutbox-rows.mjs): the forced cells as the released guide's own fill.sh prints them over the translation b140728718e31937… (all of the seat's roots in one cut). By AI agents, Wed Nov 11 2026. No macro, syntax, notation, axiom, sorry.
-/
import Derived.Test.YtikmbfppjmbolaaChecked
import GoSem.Claim
import GoSem.ClaimJoined
import GoSem.ClaimMapViews
import Derived.JoinedTies
import Derived.KernelRfl
namespace Go.Proofs.Ytikmbfppjmbolaa
/- THE CELL 'sum', in the pinned program and in every row, IS THE sha256 OF THE DUMP (.gsa) THAT YtikmbfppjmbolaaProg.lean LOADS. Nothing in Lean hashes anything: it is a label: what it is worth is what the hold of that sum in a sandbox is worth. -/
noncomputable def Try.pinned : Pinned := { name := "ytikmbfppjmbolaa", sum := "b140728718e3193756529ed4456b0066479ad1afd13c1d50131d85769414ed94", checked := Try.checked }
namespace Rows
def none {H : Type} : Left H := { results := [], args := [] }

/-- 'laws.FnExactCrc32': WHATEVER THE INPUT: true; the input reads as it did. -/
def fnExactCrc32Spec : ChangeSpec := { name := "fnExactCrc32", fn := fun _ => fun
  | [d] => { results := [.lit (.bool true)], args := [d] }
  | _ => none }
def fnExactCrc32Row : OpenClaim := { program := "ytikmbfppjmbolaa", sum := "b140728718e3193756529ed4456b0066479ad1afd13c1d50131d85769414ed94", func := "loop.example/g00138/laws.FnExactCrc32", spec := "fnExactCrc32", apart := false }
def FnExactCrc32Said : Prop := fnExactCrc32Row.holds Try.pinned (OpenSpec.ofChange fnExactCrc32Spec)

/-- ITS FALSE NEIGHBOUR: 'it returns false'. Refute it at one input. -/
def fnExactCrc32Wrong : ChangeSpec := { name := "fnExactCrc32", fn := fun _ => fun
  | [d] => { results := [.lit (.bool false)], args := [d] }
  | _ => none }
def FnExactCrc32WrongFalsely : Prop := fnExactCrc32Row.holds Try.pinned (OpenSpec.ofChange fnExactCrc32Wrong)

/-- 'laws.FnExactTorn': WHATEVER THE INPUT: true; the input reads as it did. -/
def fnExactTornSpec : ChangeSpec := { name := "fnExactTorn", fn := fun _ => fun
  | [d1, d2, d3] => { results := [.lit (.bool true)], args := [d1, d2, d3] }
  | _ => none }
def fnExactTornRow : OpenClaim := { program := "ytikmbfppjmbolaa", sum := "b140728718e3193756529ed4456b0066479ad1afd13c1d50131d85769414ed94", func := "loop.example/g00138/laws.FnExactTorn", spec := "fnExactTorn", apart := false }
def FnExactTornSaid : Prop := fnExactTornRow.holds Try.pinned (OpenSpec.ofChange fnExactTornSpec)

/-- ITS FALSE NEIGHBOUR: 'it returns false'. Refute it at one input. -/
def fnExactTornWrong : ChangeSpec := { name := "fnExactTorn", fn := fun _ => fun
  | [d1, d2, d3] => { results := [.lit (.bool false)], args := [d1, d2, d3] }
  | _ => none }
def FnExactTornWrongFalsely : Prop := fnExactTornRow.holds Try.pinned (OpenSpec.ofChange fnExactTornWrong)

/-- 'laws.FnExactFrame': WHATEVER THE INPUT: true; the input reads as it did. -/
def fnExactFrameSpec : ChangeSpec := { name := "fnExactFrame", fn := fun _ => fun
  | [d] => { results := [.lit (.bool true)], args := [d] }
  | _ => none }
def fnExactFrameRow : OpenClaim := { program := "ytikmbfppjmbolaa", sum := "b140728718e3193756529ed4456b0066479ad1afd13c1d50131d85769414ed94", func := "loop.example/g00138/laws.FnExactFrame", spec := "fnExactFrame", named := ["encoding/binary.LittleEndian"], apart := false }
def FnExactFrameSaid : Prop := fnExactFrameRow.holds Try.pinned (OpenSpec.ofChange fnExactFrameSpec)

/-- ITS FALSE NEIGHBOUR: 'it returns false'. Refute it at one input. -/
def fnExactFrameWrong : ChangeSpec := { name := "fnExactFrame", fn := fun _ => fun
  | [d] => { results := [.lit (.bool false)], args := [d] }
  | _ => none }
def FnExactFrameWrongFalsely : Prop := fnExactFrameRow.holds Try.pinned (OpenSpec.ofChange fnExactFrameWrong)

/-- 'laws.FnExactWholeFrames': WHATEVER THE INPUT: true; the input reads as it did. -/
def fnExactWholeFramesSpec : ChangeSpec := { name := "fnExactWholeFrames", fn := fun _ => fun
  | [d] => { results := [.lit (.bool true)], args := [d] }
  | _ => none }
def fnExactWholeFramesRow : OpenClaim := { program := "ytikmbfppjmbolaa", sum := "b140728718e3193756529ed4456b0066479ad1afd13c1d50131d85769414ed94", func := "loop.example/g00138/laws.FnExactWholeFrames", spec := "fnExactWholeFrames", named := ["encoding/binary.LittleEndian"], apart := false }
def FnExactWholeFramesSaid : Prop := fnExactWholeFramesRow.holds Try.pinned (OpenSpec.ofChange fnExactWholeFramesSpec)

/-- ITS FALSE NEIGHBOUR: 'it returns false'. Refute it at one input. -/
def fnExactWholeFramesWrong : ChangeSpec := { name := "fnExactWholeFrames", fn := fun _ => fun
  | [d] => { results := [.lit (.bool false)], args := [d] }
  | _ => none }
def FnExactWholeFramesWrongFalsely : Prop := fnExactWholeFramesRow.holds Try.pinned (OpenSpec.ofChange fnExactWholeFramesWrong)

/-- 'laws.FnExactFrames': WHATEVER THE INPUT: true; the input reads as it did. -/
def fnExactFramesSpec : ChangeSpec := { name := "fnExactFrames", fn := fun _ => fun
  | [d] => { results := [.lit (.bool true)], args := [d] }
  | _ => none }
def fnExactFramesRow : OpenClaim := { program := "ytikmbfppjmbolaa", sum := "b140728718e3193756529ed4456b0066479ad1afd13c1d50131d85769414ed94", func := "loop.example/g00138/laws.FnExactFrames", spec := "fnExactFrames", named := ["encoding/binary.LittleEndian"], apart := false }
def FnExactFramesSaid : Prop := fnExactFramesRow.holds Try.pinned (OpenSpec.ofChange fnExactFramesSpec)

/-- ITS FALSE NEIGHBOUR: 'it returns false'. Refute it at one input. -/
def fnExactFramesWrong : ChangeSpec := { name := "fnExactFrames", fn := fun _ => fun
  | [d] => { results := [.lit (.bool false)], args := [d] }
  | _ => none }
def FnExactFramesWrongFalsely : Prop := fnExactFramesRow.holds Try.pinned (OpenSpec.ofChange fnExactFramesWrong)

/-- 'laws.FnExactScanFrames': WHATEVER THE INPUT: true; the input reads as it did. -/
def fnExactScanFramesSpec : ChangeSpec := { name := "fnExactScanFrames", fn := fun _ => fun
  | [d] => { results := [.lit (.bool true)], args := [d] }
  | _ => none }
def fnExactScanFramesRow : OpenClaim := { program := "ytikmbfppjmbolaa", sum := "b140728718e3193756529ed4456b0066479ad1afd13c1d50131d85769414ed94", func := "loop.example/g00138/laws.FnExactScanFrames", spec := "fnExactScanFrames", named := ["encoding/binary.LittleEndian"], apart := false }
def FnExactScanFramesSaid : Prop := fnExactScanFramesRow.holds Try.pinned (OpenSpec.ofChange fnExactScanFramesSpec)

/-- ITS FALSE NEIGHBOUR: 'it returns false'. Refute it at one input. -/
def fnExactScanFramesWrong : ChangeSpec := { name := "fnExactScanFrames", fn := fun _ => fun
  | [d] => { results := [.lit (.bool false)], args := [d] }
  | _ => none }
def FnExactScanFramesWrongFalsely : Prop := fnExactScanFramesRow.holds Try.pinned (OpenSpec.ofChange fnExactScanFramesWrong)

/-- 'laws.FnFrames': WHATEVER THE INPUT: true; the input reads as it did. -/
def fnFramesSpec : ChangeSpec := { name := "fnFrames", fn := fun _ => fun
  | [d] => { results := [.lit (.bool true)], args := [d] }
  | _ => none }
def fnFramesRow : OpenClaim := { program := "ytikmbfppjmbolaa", sum := "b140728718e3193756529ed4456b0066479ad1afd13c1d50131d85769414ed94", func := "loop.example/g00138/laws.FnFrames", spec := "fnFrames", named := ["encoding/binary.LittleEndian"], apart := false }
def FnFramesSaid : Prop := fnFramesRow.holds Try.pinned (OpenSpec.ofChange fnFramesSpec)

/-- ITS FALSE NEIGHBOUR: 'it returns false'. Refute it at one input. -/
def fnFramesWrong : ChangeSpec := { name := "fnFrames", fn := fun _ => fun
  | [d] => { results := [.lit (.bool false)], args := [d] }
  | _ => none }
def FnFramesWrongFalsely : Prop := fnFramesRow.holds Try.pinned (OpenSpec.ofChange fnFramesWrong)

/- THE SECOND FORM. 'bulk': how many values and letters a reading holds, each counted each time it is reached (what is shared counts as often as it is met; a slice's spare places count too). A statement '..UptoSaid' is the law's where the arguments, and the package variables that the reading takes, are together of bulk at most 1048576: NARROWER than '..Said'. Prove '..Said' where nothing that the law and all that it calls make is longer than what came in: it says more and counts as full. Else prove '..UptoSaid'. A law counts once. -/
mutual
def uptoBulk {H : Type} : DataW H → Nat
  | .lit (.string bytes) => bytes.length + 1
  | .lit _ => 1
  | .nil => 1
  | .ptr d => uptoBulk d + 1
  | .slice elems spare => uptoBulkAll elems + uptoBulkAll spare + 1
  | .agg parts => uptoBulkAll parts + 1
  | .iface _ d => uptoBulk d + 1
  | .map entries => uptoBulkEntries entries + 1
  | .held _ => 1
def uptoBulkAll {H : Type} : List (DataW H) → Nat
  | [] => 0
  | d :: r => uptoBulk d + uptoBulkAll r
def uptoBulkEntries {H : Type} : List (Lit × DataW H) → Nat
  | [] => 0
  | x :: r => uptoBulkEntry x + uptoBulkEntries r
def uptoBulkEntry {H : Type} : Lit × DataW H → Nat
  | (.string bytes, d) => bytes.length + uptoBulk d + 1
  | (_, d) => uptoBulk d + 1
 end
def uptoSmall : (H : Type) → List (DataW H) → Bool := fun _ ds => decide (uptoBulkAll ds ≤ 1048576)
def OpenSpec.upto (s : _root_.Go.ChangeSpec) : _root_.Go.OpenSpec := { _root_.Go.OpenSpec.ofChange s with cond := some uptoSmall }

/-- 'laws.FnExactCrc32', WHERE WHAT IT READS IS OF BULK AT MOST 1048576: true; the input reads as it did. -/
def fnExactCrc32UptoRow : OpenClaim := { program := "ytikmbfppjmbolaa", sum := "b140728718e3193756529ed4456b0066479ad1afd13c1d50131d85769414ed94", func := "loop.example/g00138/laws.FnExactCrc32", spec := "fnExactCrc32", apart := false, narrowed := true }
def FnExactCrc32UptoSaid : Prop := fnExactCrc32UptoRow.holds Try.pinned (OpenSpec.upto fnExactCrc32Spec)

/-- 'laws.FnExactTorn', WHERE WHAT IT READS IS OF BULK AT MOST 1048576: true; the input reads as it did. -/
def fnExactTornUptoRow : OpenClaim := { program := "ytikmbfppjmbolaa", sum := "b140728718e3193756529ed4456b0066479ad1afd13c1d50131d85769414ed94", func := "loop.example/g00138/laws.FnExactTorn", spec := "fnExactTorn", apart := false, narrowed := true }
def FnExactTornUptoSaid : Prop := fnExactTornUptoRow.holds Try.pinned (OpenSpec.upto fnExactTornSpec)

/-- 'laws.FnExactFrame', WHERE WHAT IT READS IS OF BULK AT MOST 1048576: true; the input reads as it did. -/
def fnExactFrameUptoRow : OpenClaim := { program := "ytikmbfppjmbolaa", sum := "b140728718e3193756529ed4456b0066479ad1afd13c1d50131d85769414ed94", func := "loop.example/g00138/laws.FnExactFrame", spec := "fnExactFrame", named := ["encoding/binary.LittleEndian"], apart := false, narrowed := true }
def FnExactFrameUptoSaid : Prop := fnExactFrameUptoRow.holds Try.pinned (OpenSpec.upto fnExactFrameSpec)

/-- 'laws.FnExactWholeFrames', WHERE WHAT IT READS IS OF BULK AT MOST 1048576: true; the input reads as it did. -/
def fnExactWholeFramesUptoRow : OpenClaim := { program := "ytikmbfppjmbolaa", sum := "b140728718e3193756529ed4456b0066479ad1afd13c1d50131d85769414ed94", func := "loop.example/g00138/laws.FnExactWholeFrames", spec := "fnExactWholeFrames", named := ["encoding/binary.LittleEndian"], apart := false, narrowed := true }
def FnExactWholeFramesUptoSaid : Prop := fnExactWholeFramesUptoRow.holds Try.pinned (OpenSpec.upto fnExactWholeFramesSpec)

/-- 'laws.FnExactFrames', WHERE WHAT IT READS IS OF BULK AT MOST 1048576: true; the input reads as it did. -/
def fnExactFramesUptoRow : OpenClaim := { program := "ytikmbfppjmbolaa", sum := "b140728718e3193756529ed4456b0066479ad1afd13c1d50131d85769414ed94", func := "loop.example/g00138/laws.FnExactFrames", spec := "fnExactFrames", named := ["encoding/binary.LittleEndian"], apart := false, narrowed := true }
def FnExactFramesUptoSaid : Prop := fnExactFramesUptoRow.holds Try.pinned (OpenSpec.upto fnExactFramesSpec)

/-- 'laws.FnExactScanFrames', WHERE WHAT IT READS IS OF BULK AT MOST 1048576: true; the input reads as it did. -/
def fnExactScanFramesUptoRow : OpenClaim := { program := "ytikmbfppjmbolaa", sum := "b140728718e3193756529ed4456b0066479ad1afd13c1d50131d85769414ed94", func := "loop.example/g00138/laws.FnExactScanFrames", spec := "fnExactScanFrames", named := ["encoding/binary.LittleEndian"], apart := false, narrowed := true }
def FnExactScanFramesUptoSaid : Prop := fnExactScanFramesUptoRow.holds Try.pinned (OpenSpec.upto fnExactScanFramesSpec)

/-- 'laws.FnFrames', WHERE WHAT IT READS IS OF BULK AT MOST 1048576: true; the input reads as it did. -/
def fnFramesUptoRow : OpenClaim := { program := "ytikmbfppjmbolaa", sum := "b140728718e3193756529ed4456b0066479ad1afd13c1d50131d85769414ed94", func := "loop.example/g00138/laws.FnFrames", spec := "fnFrames", named := ["encoding/binary.LittleEndian"], apart := false, narrowed := true }
def FnFramesUptoSaid : Prop := fnFramesUptoRow.holds Try.pinned (OpenSpec.upto fnFramesSpec)

end Rows
end Go.Proofs.Ytikmbfppjmbolaa
